/-
  No cell of these rows narrows 'for every input' (looked for: loops, veiled, ifaces, maps, wideKeys, modest, calm, conditions, laid).
  DERIVED. THE GIVEN ROWS OF THIS SEAT. 7 by the template 'for every input the law returns true; each argument reads behind the call as it read before'; 0 by the template 'total and deterministic' (their statements: YtffjbciladpdlaaGreatTotals.lean).
  GIVEN WITH THE SEED: the statements are not yours to turn. If you find one false, say at which input.
  Laid BY PROGRAM, IN A SANDBOX (cutbox-rows.mjs): the forced cells as the released guide's own fill.sh prints them over the translation 572634d538337d1f… (all of the seat's roots in one cut). By AI agents, Wed Nov 11 2026. No macro, syntax, notation, axiom, sorry.
-/
import Derived.Test.YtffjbciladpdlaaGreatChecked
import GoSem.Claim
import GoSem.ClaimJoined
import GoSem.ClaimMapViews
import Derived.JoinedTies
import Derived.KernelRfl
namespace Go.Proofs.YtffjbciladpdlaaGreat
/- THE CELL 'sum', in the pinned program and in every row, IS THE sha256 OF THE DUMP (.gsa) THAT YtffjbciladpdlaaGreatProg.lean LOADS. Nothing in Lean hashes anything: it is a label: what it is worth is what the hold of that sum in a sandbox is worth. -/
noncomputable def Tryz.pinned : Pinned := { name := "ytffjbciladpdlaagreat", sum := "572634d538337d1f5654355303ca3cb6849d4cdfafde147950aefb352e06c4c7", checked := Tryz.checked }
namespace Rows
def none {H : Type} : Left H := { results := [], args := [] }

/-- 'bitcastlaw11.TableBuilds': WHATEVER THE INPUT: true; the input reads as it did. -/
def tableBuildsSpec : ChangeSpec := { name := "tableBuilds", fn := fun _ => fun
  | [d1, d2] => { results := [.lit (.bool true)], args := [d1, d2] }
  | _ => none }
def tableBuildsRow : OpenClaim := { program := "ytffjbciladpdlaagreat", sum := "572634d538337d1f5654355303ca3cb6849d4cdfafde147950aefb352e06c4c7", func := "bitcast/bitcastlaw11.TableBuilds", spec := "tableBuilds", unfollowed := true, recurses := true, apart := false }
def TableBuildsSaid : Prop := tableBuildsRow.holds Tryz.pinned (OpenSpec.ofChange tableBuildsSpec)

/-- ITS FALSE NEIGHBOUR: 'it returns false'. Refute it at one input. -/
def tableBuildsWrong : ChangeSpec := { name := "tableBuilds", fn := fun _ => fun
  | [d1, d2] => { results := [.lit (.bool false)], args := [d1, d2] }
  | _ => none }
def TableBuildsWrongFalsely : Prop := tableBuildsRow.holds Tryz.pinned (OpenSpec.ofChange tableBuildsWrong)

/-- 'bitcastlaw11.TableHops': WHATEVER THE INPUT: true; the input reads as it did. -/
def tableHopsSpec : ChangeSpec := { name := "tableHops", fn := fun _ => fun
  | [d1, d2, d3] => { results := [.lit (.bool true)], args := [d1, d2, d3] }
  | _ => none }
def tableHopsRow : OpenClaim := { program := "ytffjbciladpdlaagreat", sum := "572634d538337d1f5654355303ca3cb6849d4cdfafde147950aefb352e06c4c7", func := "bitcast/bitcastlaw11.TableHops", spec := "tableHops", unfollowed := true, recurses := true, apart := false }
def TableHopsSaid : Prop := tableHopsRow.holds Tryz.pinned (OpenSpec.ofChange tableHopsSpec)

/-- ITS FALSE NEIGHBOUR: 'it returns false'. Refute it at one input. -/
def tableHopsWrong : ChangeSpec := { name := "tableHops", fn := fun _ => fun
  | [d1, d2, d3] => { results := [.lit (.bool false)], args := [d1, d2, d3] }
  | _ => none }
def TableHopsWrongFalsely : Prop := tableHopsRow.holds Tryz.pinned (OpenSpec.ofChange tableHopsWrong)

/-- 'bitcastlaw11.TableNexts': WHATEVER THE INPUT: true; the input reads as it did. -/
def tableNextsSpec : ChangeSpec := { name := "tableNexts", fn := fun _ => fun
  | [d] => { results := [.lit (.bool true)], args := [d] }
  | _ => none }
def tableNextsRow : OpenClaim := { program := "ytffjbciladpdlaagreat", sum := "572634d538337d1f5654355303ca3cb6849d4cdfafde147950aefb352e06c4c7", func := "bitcast/bitcastlaw11.TableNexts", spec := "tableNexts", unfollowed := true, recurses := true, apart := false }
def TableNextsSaid : Prop := tableNextsRow.holds Tryz.pinned (OpenSpec.ofChange tableNextsSpec)

/-- ITS FALSE NEIGHBOUR: 'it returns false'. Refute it at one input. -/
def tableNextsWrong : ChangeSpec := { name := "tableNexts", fn := fun _ => fun
  | [d] => { results := [.lit (.bool false)], args := [d] }
  | _ => none }
def TableNextsWrongFalsely : Prop := tableNextsRow.holds Tryz.pinned (OpenSpec.ofChange tableNextsWrong)

/-- 'bitcastlaw11.TableNearer': WHATEVER THE INPUT: true; the input reads as it did. -/
def tableNearerSpec : ChangeSpec := { name := "tableNearer", fn := fun _ => fun
  | [d] => { results := [.lit (.bool true)], args := [d] }
  | _ => none }
def tableNearerRow : OpenClaim := { program := "ytffjbciladpdlaagreat", sum := "572634d538337d1f5654355303ca3cb6849d4cdfafde147950aefb352e06c4c7", func := "bitcast/bitcastlaw11.TableNearer", spec := "tableNearer", unfollowed := true, recurses := true, apart := false }
def TableNearerSaid : Prop := tableNearerRow.holds Tryz.pinned (OpenSpec.ofChange tableNearerSpec)

/-- ITS FALSE NEIGHBOUR: 'it returns false'. Refute it at one input. -/
def tableNearerWrong : ChangeSpec := { name := "tableNearer", fn := fun _ => fun
  | [d] => { results := [.lit (.bool false)], args := [d] }
  | _ => none }
def TableNearerWrongFalsely : Prop := tableNearerRow.holds Tryz.pinned (OpenSpec.ofChange tableNearerWrong)

/-- 'bitcastlaw11.TableAll': WHATEVER THE INPUT: true; the input reads as it did. -/
def tableAllSpec : ChangeSpec := { name := "tableAll", fn := fun _ => fun
  | [d] => { results := [.lit (.bool true)], args := [d] }
  | _ => none }
def tableAllRow : OpenClaim := { program := "ytffjbciladpdlaagreat", sum := "572634d538337d1f5654355303ca3cb6849d4cdfafde147950aefb352e06c4c7", func := "bitcast/bitcastlaw11.TableAll", spec := "tableAll", unfollowed := true, recurses := true, apart := false }
def TableAllSaid : Prop := tableAllRow.holds Tryz.pinned (OpenSpec.ofChange tableAllSpec)

/-- ITS FALSE NEIGHBOUR: 'it returns false'. Refute it at one input. -/
def tableAllWrong : ChangeSpec := { name := "tableAll", fn := fun _ => fun
  | [d] => { results := [.lit (.bool false)], args := [d] }
  | _ => none }
def TableAllWrongFalsely : Prop := tableAllRow.holds Tryz.pinned (OpenSpec.ofChange tableAllWrong)

/-- 'bitcastlaw11.TableTogether': WHATEVER THE INPUT: true; the input reads as it did. -/
def tableTogetherSpec : ChangeSpec := { name := "tableTogether", fn := fun _ => fun
  | [d1, d2, d3] => { results := [.lit (.bool true)], args := [d1, d2, d3] }
  | _ => none }
def tableTogetherRow : OpenClaim := { program := "ytffjbciladpdlaagreat", sum := "572634d538337d1f5654355303ca3cb6849d4cdfafde147950aefb352e06c4c7", func := "bitcast/bitcastlaw11.TableTogether", spec := "tableTogether", unfollowed := true, recurses := true, apart := false }
def TableTogetherSaid : Prop := tableTogetherRow.holds Tryz.pinned (OpenSpec.ofChange tableTogetherSpec)

/-- ITS FALSE NEIGHBOUR: 'it returns false'. Refute it at one input. -/
def tableTogetherWrong : ChangeSpec := { name := "tableTogether", fn := fun _ => fun
  | [d1, d2, d3] => { results := [.lit (.bool false)], args := [d1, d2, d3] }
  | _ => none }
def TableTogetherWrongFalsely : Prop := tableTogetherRow.holds Tryz.pinned (OpenSpec.ofChange tableTogetherWrong)

/-- 'bitcastlaw11.TableChecks': WHATEVER THE INPUT: true; the input reads as it did. -/
def tableChecksSpec : ChangeSpec := { name := "tableChecks", fn := fun _ => fun
  | [d1, d2, d3] => { results := [.lit (.bool true)], args := [d1, d2, d3] }
  | _ => none }
def tableChecksRow : OpenClaim := { program := "ytffjbciladpdlaagreat", sum := "572634d538337d1f5654355303ca3cb6849d4cdfafde147950aefb352e06c4c7", func := "bitcast/bitcastlaw11.TableChecks", spec := "tableChecks", unfollowed := true, recurses := true, apart := false }
def TableChecksSaid : Prop := tableChecksRow.holds Tryz.pinned (OpenSpec.ofChange tableChecksSpec)

/-- ITS FALSE NEIGHBOUR: 'it returns false'. Refute it at one input. -/
def tableChecksWrong : ChangeSpec := { name := "tableChecks", fn := fun _ => fun
  | [d1, d2, d3] => { results := [.lit (.bool false)], args := [d1, d2, d3] }
  | _ => none }
def TableChecksWrongFalsely : Prop := tableChecksRow.holds Tryz.pinned (OpenSpec.ofChange tableChecksWrong)

/- THE SECOND FORM. 'bulk': how many values and letters a reading holds, each counted each time it is reached (what is shared counts as often as it is met; a slice's spare places count too). A statement '..UptoSaid' is the law's where the arguments, and the package variables that the reading takes, are together of bulk at most 1048576: NARROWER than '..Said'. Prove '..Said' where nothing that the law and all that it calls make is longer than what came in: it says more and counts as full. Else prove '..UptoSaid'. A law counts once. -/
mutual
def uptoBulk {H : Type} : DataW H → Nat
  | .lit (.string bytes) => bytes.length + 1
  | .lit _ => 1
  | .nil => 1
  | .ptr d => uptoBulk d + 1
  | .slice elems spare => uptoBulkAll elems + uptoBulkAll spare + 1
  | .agg parts => uptoBulkAll parts + 1
  | .iface _ d => uptoBulk d + 1
  | .map entries => uptoBulkEntries entries + 1
  | .held _ => 1
def uptoBulkAll {H : Type} : List (DataW H) → Nat
  | [] => 0
  | d :: r => uptoBulk d + uptoBulkAll r
def uptoBulkEntries {H : Type} : List (Lit × DataW H) → Nat
  | [] => 0
  | x :: r => uptoBulkEntry x + uptoBulkEntries r
def uptoBulkEntry {H : Type} : Lit × DataW H → Nat
  | (.string bytes, d) => bytes.length + uptoBulk d + 1
  | (_, d) => uptoBulk d + 1
 end
def uptoSmall : (H : Type) → List (DataW H) → Bool := fun _ ds => decide (uptoBulkAll ds ≤ 1048576)
def OpenSpec.upto (s : _root_.Go.ChangeSpec) : _root_.Go.OpenSpec := { _root_.Go.OpenSpec.ofChange s with cond := some uptoSmall }

/-- 'bitcastlaw11.TableBuilds', WHERE WHAT IT READS IS OF BULK AT MOST 1048576: true; the input reads as it did. -/
def tableBuildsUptoRow : OpenClaim := { program := "ytffjbciladpdlaagreat", sum := "572634d538337d1f5654355303ca3cb6849d4cdfafde147950aefb352e06c4c7", func := "bitcast/bitcastlaw11.TableBuilds", spec := "tableBuilds", unfollowed := true, recurses := true, apart := false, narrowed := true }
def TableBuildsUptoSaid : Prop := tableBuildsUptoRow.holds Tryz.pinned (OpenSpec.upto tableBuildsSpec)

/-- 'bitcastlaw11.TableHops', WHERE WHAT IT READS IS OF BULK AT MOST 1048576: true; the input reads as it did. -/
def tableHopsUptoRow : OpenClaim := { program := "ytffjbciladpdlaagreat", sum := "572634d538337d1f5654355303ca3cb6849d4cdfafde147950aefb352e06c4c7", func := "bitcast/bitcastlaw11.TableHops", spec := "tableHops", unfollowed := true, recurses := true, apart := false, narrowed := true }
def TableHopsUptoSaid : Prop := tableHopsUptoRow.holds Tryz.pinned (OpenSpec.upto tableHopsSpec)

/-- 'bitcastlaw11.TableNexts', WHERE WHAT IT READS IS OF BULK AT MOST 1048576: true; the input reads as it did. -/
def tableNextsUptoRow : OpenClaim := { program := "ytffjbciladpdlaagreat", sum := "572634d538337d1f5654355303ca3cb6849d4cdfafde147950aefb352e06c4c7", func := "bitcast/bitcastlaw11.TableNexts", spec := "tableNexts", unfollowed := true, recurses := true, apart := false, narrowed := true }
def TableNextsUptoSaid : Prop := tableNextsUptoRow.holds Tryz.pinned (OpenSpec.upto tableNextsSpec)

/-- 'bitcastlaw11.TableNearer', WHERE WHAT IT READS IS OF BULK AT MOST 1048576: true; the input reads as it did. -/
def tableNearerUptoRow : OpenClaim := { program := "ytffjbciladpdlaagreat", sum := "572634d538337d1f5654355303ca3cb6849d4cdfafde147950aefb352e06c4c7", func := "bitcast/bitcastlaw11.TableNearer", spec := "tableNearer", unfollowed := true, recurses := true, apart := false, narrowed := true }
def TableNearerUptoSaid : Prop := tableNearerUptoRow.holds Tryz.pinned (OpenSpec.upto tableNearerSpec)

/-- 'bitcastlaw11.TableAll', WHERE WHAT IT READS IS OF BULK AT MOST 1048576: true; the input reads as it did. -/
def tableAllUptoRow : OpenClaim := { program := "ytffjbciladpdlaagreat", sum := "572634d538337d1f5654355303ca3cb6849d4cdfafde147950aefb352e06c4c7", func := "bitcast/bitcastlaw11.TableAll", spec := "tableAll", unfollowed := true, recurses := true, apart := false, narrowed := true }
def TableAllUptoSaid : Prop := tableAllUptoRow.holds Tryz.pinned (OpenSpec.upto tableAllSpec)

/-- 'bitcastlaw11.TableTogether', WHERE WHAT IT READS IS OF BULK AT MOST 1048576: true; the input reads as it did. -/
def tableTogetherUptoRow : OpenClaim := { program := "ytffjbciladpdlaagreat", sum := "572634d538337d1f5654355303ca3cb6849d4cdfafde147950aefb352e06c4c7", func := "bitcast/bitcastlaw11.TableTogether", spec := "tableTogether", unfollowed := true, recurses := true, apart := false, narrowed := true }
def TableTogetherUptoSaid : Prop := tableTogetherUptoRow.holds Tryz.pinned (OpenSpec.upto tableTogetherSpec)

/-- 'bitcastlaw11.TableChecks', WHERE WHAT IT READS IS OF BULK AT MOST 1048576: true; the input reads as it did. -/
def tableChecksUptoRow : OpenClaim := { program := "ytffjbciladpdlaagreat", sum := "572634d538337d1f5654355303ca3cb6849d4cdfafde147950aefb352e06c4c7", func := "bitcast/bitcastlaw11.TableChecks", spec := "tableChecks", unfollowed := true, recurses := true, apart := false, narrowed := true }
def TableChecksUptoSaid : Prop := tableChecksUptoRow.holds Tryz.pinned (OpenSpec.upto tableChecksSpec)

end Rows
end Go.Proofs.YtffjbciladpdlaaGreat
