/-
  No cell of these rows narrows 'for every input' (looked for: loops, veiled, ifaces, maps, wideKeys, modest, calm, conditions, laid).
  DERIVED. THE GIVEN ROWS OF THIS SEAT. 4 by the template 'for every input the law returns true; each argument reads behind the call as it read before'; 0 by the template 'total and deterministic' (their statements: YtbjbhnidedfcfaaTotals.lean).
  GIVEN WITH THE SEED: the statements are not yours to turn. If you find one false, say at which input.
  Laid BY PROGRAM, IN A SANDBOX (cutbox-rows.mjs): the forced cells as the released guide's own fill.sh prints them over the translation 426e854a988d0f46… (all of the seat's roots in one cut). By AI agents, Wed Nov 11 2026. No macro, syntax, notation, axiom, sorry.
-/
import Derived.Test.YtbjbhnidedfcfaaChecked
import GoSem.Claim
import GoSem.ClaimJoined
import GoSem.ClaimMapViews
import Derived.JoinedTies
import Derived.KernelRfl
namespace Go.Proofs.Ytbjbhnidedfcfaa
/- THE CELL 'sum', in the pinned program and in every row, IS THE sha256 OF THE DUMP (.gsa) THAT YtbjbhnidedfcfaaProg.lean LOADS. Nothing in Lean hashes anything: it is a label: what it is worth is what the hold of that sum in a sandbox is worth. -/
noncomputable def Try.pinned : Pinned := { name := "ytbjbhnidedfcfaa", sum := "426e854a988d0f46e6f7fe4307c59c14be2f0285f2c4833498d4256e96dd31f3", checked := Try.checked }
namespace Rows
def none {H : Type} : Left H := { results := [], args := [] }

/-- 'bitcastlaw17.IngressCompares': WHATEVER THE INPUT: true; the input reads as it did. -/
def ingressComparesSpec : ChangeSpec := { name := "ingressCompares", fn := fun _ => fun
  | [d1, d2, d3] => { results := [.lit (.bool true)], args := [d1, d2, d3] }
  | _ => none }
def ingressComparesRow : OpenClaim := { program := "ytbjbhnidedfcfaa", sum := "426e854a988d0f46e6f7fe4307c59c14be2f0285f2c4833498d4256e96dd31f3", func := "bitcast/bitcastlaw17.IngressCompares", spec := "ingressCompares", unfollowed := true, recurses := true, apart := false }
def IngressComparesSaid : Prop := ingressComparesRow.holds Try.pinned (OpenSpec.ofChange ingressComparesSpec)

/-- ITS FALSE NEIGHBOUR: 'it returns false'. Refute it at one input. -/
def ingressComparesWrong : ChangeSpec := { name := "ingressCompares", fn := fun _ => fun
  | [d1, d2, d3] => { results := [.lit (.bool false)], args := [d1, d2, d3] }
  | _ => none }
def IngressComparesWrongFalsely : Prop := ingressComparesRow.holds Try.pinned (OpenSpec.ofChange ingressComparesWrong)

/-- 'bitcastlaw17.IngressPackets': WHATEVER THE INPUT: true; the input reads as it did. -/
def ingressPacketsSpec : ChangeSpec := { name := "ingressPackets", fn := fun _ => fun
  | [d1, d2, d3] => { results := [.lit (.bool true)], args := [d1, d2, d3] }
  | _ => none }
def ingressPacketsRow : OpenClaim := { program := "ytbjbhnidedfcfaa", sum := "426e854a988d0f46e6f7fe4307c59c14be2f0285f2c4833498d4256e96dd31f3", func := "bitcast/bitcastlaw17.IngressPackets", spec := "ingressPackets", unfollowed := true, recurses := true, apart := false }
def IngressPacketsSaid : Prop := ingressPacketsRow.holds Try.pinned (OpenSpec.ofChange ingressPacketsSpec)

/-- ITS FALSE NEIGHBOUR: 'it returns false'. Refute it at one input. -/
def ingressPacketsWrong : ChangeSpec := { name := "ingressPackets", fn := fun _ => fun
  | [d1, d2, d3] => { results := [.lit (.bool false)], args := [d1, d2, d3] }
  | _ => none }
def IngressPacketsWrongFalsely : Prop := ingressPacketsRow.holds Try.pinned (OpenSpec.ofChange ingressPacketsWrong)

/-- 'bitcastlaw17.IngressSets': WHATEVER THE INPUT: true; the input reads as it did. -/
def ingressSetsSpec : ChangeSpec := { name := "ingressSets", fn := fun _ => fun
  | [d] => { results := [.lit (.bool true)], args := [d] }
  | _ => none }
def ingressSetsRow : OpenClaim := { program := "ytbjbhnidedfcfaa", sum := "426e854a988d0f46e6f7fe4307c59c14be2f0285f2c4833498d4256e96dd31f3", func := "bitcast/bitcastlaw17.IngressSets", spec := "ingressSets", unfollowed := true, recurses := true, apart := false }
def IngressSetsSaid : Prop := ingressSetsRow.holds Try.pinned (OpenSpec.ofChange ingressSetsSpec)

/-- ITS FALSE NEIGHBOUR: 'it returns false'. Refute it at one input. -/
def ingressSetsWrong : ChangeSpec := { name := "ingressSets", fn := fun _ => fun
  | [d] => { results := [.lit (.bool false)], args := [d] }
  | _ => none }
def IngressSetsWrongFalsely : Prop := ingressSetsRow.holds Try.pinned (OpenSpec.ofChange ingressSetsWrong)

/-- 'bitcastlaw17.IngressUnicast': WHATEVER THE INPUT: true; the input reads as it did. -/
def ingressUnicastSpec : ChangeSpec := { name := "ingressUnicast", fn := fun _ => fun
  | [d1, d2, d3, d4] => { results := [.lit (.bool true)], args := [d1, d2, d3, d4] }
  | _ => none }
def ingressUnicastRow : OpenClaim := { program := "ytbjbhnidedfcfaa", sum := "426e854a988d0f46e6f7fe4307c59c14be2f0285f2c4833498d4256e96dd31f3", func := "bitcast/bitcastlaw17.IngressUnicast", spec := "ingressUnicast", unfollowed := true, recurses := true, apart := false }
def IngressUnicastSaid : Prop := ingressUnicastRow.holds Try.pinned (OpenSpec.ofChange ingressUnicastSpec)

/-- ITS FALSE NEIGHBOUR: 'it returns false'. Refute it at one input. -/
def ingressUnicastWrong : ChangeSpec := { name := "ingressUnicast", fn := fun _ => fun
  | [d1, d2, d3, d4] => { results := [.lit (.bool false)], args := [d1, d2, d3, d4] }
  | _ => none }
def IngressUnicastWrongFalsely : Prop := ingressUnicastRow.holds Try.pinned (OpenSpec.ofChange ingressUnicastWrong)

/- THE SECOND FORM. 'bulk': how many values and letters a reading holds, each counted each time it is reached (what is shared counts as often as it is met; a slice's spare places count too). A statement '..UptoSaid' is the law's where the arguments, and the package variables that the reading takes, are together of bulk at most 1048576: NARROWER than '..Said'. Prove '..Said' where nothing that the law and all that it calls make is longer than what came in: it says more and counts as full. Else prove '..UptoSaid'. A law counts once. -/
mutual
def uptoBulk {H : Type} : DataW H → Nat
  | .lit (.string bytes) => bytes.length + 1
  | .lit _ => 1
  | .nil => 1
  | .ptr d => uptoBulk d + 1
  | .slice elems spare => uptoBulkAll elems + uptoBulkAll spare + 1
  | .agg parts => uptoBulkAll parts + 1
  | .iface _ d => uptoBulk d + 1
  | .map entries => uptoBulkEntries entries + 1
  | .held _ => 1
def uptoBulkAll {H : Type} : List (DataW H) → Nat
  | [] => 0
  | d :: r => uptoBulk d + uptoBulkAll r
def uptoBulkEntries {H : Type} : List (Lit × DataW H) → Nat
  | [] => 0
  | x :: r => uptoBulkEntry x + uptoBulkEntries r
def uptoBulkEntry {H : Type} : Lit × DataW H → Nat
  | (.string bytes, d) => bytes.length + uptoBulk d + 1
  | (_, d) => uptoBulk d + 1
 end
def uptoSmall : (H : Type) → List (DataW H) → Bool := fun _ ds => decide (uptoBulkAll ds ≤ 1048576)
def OpenSpec.upto (s : _root_.Go.ChangeSpec) : _root_.Go.OpenSpec := { _root_.Go.OpenSpec.ofChange s with cond := some uptoSmall }

/-- 'bitcastlaw17.IngressCompares', WHERE WHAT IT READS IS OF BULK AT MOST 1048576: true; the input reads as it did. -/
def ingressComparesUptoRow : OpenClaim := { program := "ytbjbhnidedfcfaa", sum := "426e854a988d0f46e6f7fe4307c59c14be2f0285f2c4833498d4256e96dd31f3", func := "bitcast/bitcastlaw17.IngressCompares", spec := "ingressCompares", unfollowed := true, recurses := true, apart := false, narrowed := true }
def IngressComparesUptoSaid : Prop := ingressComparesUptoRow.holds Try.pinned (OpenSpec.upto ingressComparesSpec)

/-- 'bitcastlaw17.IngressPackets', WHERE WHAT IT READS IS OF BULK AT MOST 1048576: true; the input reads as it did. -/
def ingressPacketsUptoRow : OpenClaim := { program := "ytbjbhnidedfcfaa", sum := "426e854a988d0f46e6f7fe4307c59c14be2f0285f2c4833498d4256e96dd31f3", func := "bitcast/bitcastlaw17.IngressPackets", spec := "ingressPackets", unfollowed := true, recurses := true, apart := false, narrowed := true }
def IngressPacketsUptoSaid : Prop := ingressPacketsUptoRow.holds Try.pinned (OpenSpec.upto ingressPacketsSpec)

/-- 'bitcastlaw17.IngressSets', WHERE WHAT IT READS IS OF BULK AT MOST 1048576: true; the input reads as it did. -/
def ingressSetsUptoRow : OpenClaim := { program := "ytbjbhnidedfcfaa", sum := "426e854a988d0f46e6f7fe4307c59c14be2f0285f2c4833498d4256e96dd31f3", func := "bitcast/bitcastlaw17.IngressSets", spec := "ingressSets", unfollowed := true, recurses := true, apart := false, narrowed := true }
def IngressSetsUptoSaid : Prop := ingressSetsUptoRow.holds Try.pinned (OpenSpec.upto ingressSetsSpec)

/-- 'bitcastlaw17.IngressUnicast', WHERE WHAT IT READS IS OF BULK AT MOST 1048576: true; the input reads as it did. -/
def ingressUnicastUptoRow : OpenClaim := { program := "ytbjbhnidedfcfaa", sum := "426e854a988d0f46e6f7fe4307c59c14be2f0285f2c4833498d4256e96dd31f3", func := "bitcast/bitcastlaw17.IngressUnicast", spec := "ingressUnicast", unfollowed := true, recurses := true, apart := false, narrowed := true }
def IngressUnicastUptoSaid : Prop := ingressUnicastUptoRow.holds Try.pinned (OpenSpec.upto ingressUnicastSpec)

end Rows
end Go.Proofs.Ytbjbhnidedfcfaa
