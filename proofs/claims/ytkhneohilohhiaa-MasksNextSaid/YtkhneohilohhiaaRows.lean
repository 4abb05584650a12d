/-
  No cell of these rows narrows 'for every input' (looked for: loops, veiled, ifaces, maps, wideKeys, modest, calm, conditions, laid).
  DERIVED. THE GIVEN ROWS OF THIS SEAT. 7 by the template 'for every input the law returns true; each argument reads behind the call as it read before'; 0 by the template 'total and deterministic' (their statements: YtkhneohilohhiaaTotals.lean).
  GIVEN WITH THE SEED: the statements are not yours to turn. If you find one false, say at which input.
  Laid BY PROGRAM, IN A SANDBOX (cutbox-rows.mjs): the forced cells as the released guide's own fill.sh prints them over the translation 93e091d0d494e70e… (all of the seat's roots in one cut). By AI agents, Wed Nov 11 2026. No macro, syntax, notation, axiom, sorry.
-/
import Derived.Test.YtkhneohilohhiaaChecked
import GoSem.Claim
import GoSem.ClaimJoined
import GoSem.ClaimMapViews
import Derived.JoinedTies
import Derived.KernelRfl
namespace Go.Proofs.Ytkhneohilohhiaa
/- THE CELL 'sum', in the pinned program and in every row, IS THE sha256 OF THE DUMP (.gsa) THAT YtkhneohilohhiaaProg.lean LOADS. Nothing in Lean hashes anything: it is a label: what it is worth is what the hold of that sum in a sandbox is worth. -/
noncomputable def Try.pinned : Pinned := { name := "ytkhneohilohhiaa", sum := "93e091d0d494e70eb4d0f71eeabd123ef4d8724f5c8a5f843585307c41d16b70", checked := Try.checked }
namespace Rows
def none {H : Type} : Left H := { results := [], args := [] }

/-- 'bitcastlaw12.MasksShare': WHATEVER THE INPUT: true; the input reads as it did. -/
def masksShareSpec : ChangeSpec := { name := "masksShare", fn := fun _ => fun
  | [d] => { results := [.lit (.bool true)], args := [d] }
  | _ => none }
def masksShareRow : OpenClaim := { program := "ytkhneohilohhiaa", sum := "93e091d0d494e70eb4d0f71eeabd123ef4d8724f5c8a5f843585307c41d16b70", func := "bitcast/bitcastlaw12.MasksShare", spec := "masksShare", unfollowed := true, recurses := true, apart := false }
def MasksShareSaid : Prop := masksShareRow.holds Try.pinned (OpenSpec.ofChange masksShareSpec)

/-- ITS FALSE NEIGHBOUR: 'it returns false'. Refute it at one input. -/
def masksShareWrong : ChangeSpec := { name := "masksShare", fn := fun _ => fun
  | [d] => { results := [.lit (.bool false)], args := [d] }
  | _ => none }
def MasksShareWrongFalsely : Prop := masksShareRow.holds Try.pinned (OpenSpec.ofChange masksShareWrong)

/-- 'bitcastlaw12.MasksAll': WHATEVER THE INPUT: true; the input reads as it did. -/
def masksAllSpec : ChangeSpec := { name := "masksAll", fn := fun _ => fun
  | [d1, d2, d3] => { results := [.lit (.bool true)], args := [d1, d2, d3] }
  | _ => none }
def masksAllRow : OpenClaim := { program := "ytkhneohilohhiaa", sum := "93e091d0d494e70eb4d0f71eeabd123ef4d8724f5c8a5f843585307c41d16b70", func := "bitcast/bitcastlaw12.MasksAll", spec := "masksAll", unfollowed := true, recurses := true, apart := false }
def MasksAllSaid : Prop := masksAllRow.holds Try.pinned (OpenSpec.ofChange masksAllSpec)

/-- ITS FALSE NEIGHBOUR: 'it returns false'. Refute it at one input. -/
def masksAllWrong : ChangeSpec := { name := "masksAll", fn := fun _ => fun
  | [d1, d2, d3] => { results := [.lit (.bool false)], args := [d1, d2, d3] }
  | _ => none }
def MasksAllWrongFalsely : Prop := masksAllRow.holds Try.pinned (OpenSpec.ofChange masksAllWrong)

/-- 'bitcastlaw12.MasksDivide': WHATEVER THE INPUT: true; the input reads as it did. -/
def masksDivideSpec : ChangeSpec := { name := "masksDivide", fn := fun _ => fun
  | [d] => { results := [.lit (.bool true)], args := [d] }
  | _ => none }
def masksDivideRow : OpenClaim := { program := "ytkhneohilohhiaa", sum := "93e091d0d494e70eb4d0f71eeabd123ef4d8724f5c8a5f843585307c41d16b70", func := "bitcast/bitcastlaw12.MasksDivide", spec := "masksDivide", unfollowed := true, recurses := true, apart := false }
def MasksDivideSaid : Prop := masksDivideRow.holds Try.pinned (OpenSpec.ofChange masksDivideSpec)

/-- ITS FALSE NEIGHBOUR: 'it returns false'. Refute it at one input. -/
def masksDivideWrong : ChangeSpec := { name := "masksDivide", fn := fun _ => fun
  | [d] => { results := [.lit (.bool false)], args := [d] }
  | _ => none }
def MasksDivideWrongFalsely : Prop := masksDivideRow.holds Try.pinned (OpenSpec.ofChange masksDivideWrong)

/-- 'bitcastlaw12.MasksNext': WHATEVER THE INPUT: true; the input reads as it did. -/
def masksNextSpec : ChangeSpec := { name := "masksNext", fn := fun _ => fun
  | [d1, d2, d3, d4, d5] => { results := [.lit (.bool true)], args := [d1, d2, d3, d4, d5] }
  | _ => none }
def masksNextRow : OpenClaim := { program := "ytkhneohilohhiaa", sum := "93e091d0d494e70eb4d0f71eeabd123ef4d8724f5c8a5f843585307c41d16b70", func := "bitcast/bitcastlaw12.MasksNext", spec := "masksNext", unfollowed := true, recurses := true, apart := false }
def MasksNextSaid : Prop := masksNextRow.holds Try.pinned (OpenSpec.ofChange masksNextSpec)

/-- ITS FALSE NEIGHBOUR: 'it returns false'. Refute it at one input. -/
def masksNextWrong : ChangeSpec := { name := "masksNext", fn := fun _ => fun
  | [d1, d2, d3, d4, d5] => { results := [.lit (.bool false)], args := [d1, d2, d3, d4, d5] }
  | _ => none }
def MasksNextWrongFalsely : Prop := masksNextRow.holds Try.pinned (OpenSpec.ofChange masksNextWrong)

/-- 'bitcastlaw12.MasksMember': WHATEVER THE INPUT: true; the input reads as it did. -/
def masksMemberSpec : ChangeSpec := { name := "masksMember", fn := fun _ => fun
  | [d] => { results := [.lit (.bool true)], args := [d] }
  | _ => none }
def masksMemberRow : OpenClaim := { program := "ytkhneohilohhiaa", sum := "93e091d0d494e70eb4d0f71eeabd123ef4d8724f5c8a5f843585307c41d16b70", func := "bitcast/bitcastlaw12.MasksMember", spec := "masksMember", unfollowed := true, recurses := true, apart := false }
def MasksMemberSaid : Prop := masksMemberRow.holds Try.pinned (OpenSpec.ofChange masksMemberSpec)

/-- ITS FALSE NEIGHBOUR: 'it returns false'. Refute it at one input. -/
def masksMemberWrong : ChangeSpec := { name := "masksMember", fn := fun _ => fun
  | [d] => { results := [.lit (.bool false)], args := [d] }
  | _ => none }
def MasksMemberWrongFalsely : Prop := masksMemberRow.holds Try.pinned (OpenSpec.ofChange masksMemberWrong)

/-- 'bitcastlaw12.MasksUsed': WHATEVER THE INPUT: true; the input reads as it did. -/
def masksUsedSpec : ChangeSpec := { name := "masksUsed", fn := fun _ => fun
  | [d] => { results := [.lit (.bool true)], args := [d] }
  | _ => none }
def masksUsedRow : OpenClaim := { program := "ytkhneohilohhiaa", sum := "93e091d0d494e70eb4d0f71eeabd123ef4d8724f5c8a5f843585307c41d16b70", func := "bitcast/bitcastlaw12.MasksUsed", spec := "masksUsed", unfollowed := true, recurses := true, apart := false }
def MasksUsedSaid : Prop := masksUsedRow.holds Try.pinned (OpenSpec.ofChange masksUsedSpec)

/-- ITS FALSE NEIGHBOUR: 'it returns false'. Refute it at one input. -/
def masksUsedWrong : ChangeSpec := { name := "masksUsed", fn := fun _ => fun
  | [d] => { results := [.lit (.bool false)], args := [d] }
  | _ => none }
def MasksUsedWrongFalsely : Prop := masksUsedRow.holds Try.pinned (OpenSpec.ofChange masksUsedWrong)

/-- 'bitcastlaw12.MasksRaw': WHATEVER THE INPUT: true; the input reads as it did. -/
def masksRawSpec : ChangeSpec := { name := "masksRaw", fn := fun _ => fun
  | [d1, d2, d3, d4, d5] => { results := [.lit (.bool true)], args := [d1, d2, d3, d4, d5] }
  | _ => none }
def masksRawRow : OpenClaim := { program := "ytkhneohilohhiaa", sum := "93e091d0d494e70eb4d0f71eeabd123ef4d8724f5c8a5f843585307c41d16b70", func := "bitcast/bitcastlaw12.MasksRaw", spec := "masksRaw", unfollowed := true, recurses := true, apart := false }
def MasksRawSaid : Prop := masksRawRow.holds Try.pinned (OpenSpec.ofChange masksRawSpec)

/-- ITS FALSE NEIGHBOUR: 'it returns false'. Refute it at one input. -/
def masksRawWrong : ChangeSpec := { name := "masksRaw", fn := fun _ => fun
  | [d1, d2, d3, d4, d5] => { results := [.lit (.bool false)], args := [d1, d2, d3, d4, d5] }
  | _ => none }
def MasksRawWrongFalsely : Prop := masksRawRow.holds Try.pinned (OpenSpec.ofChange masksRawWrong)

/- THE SECOND FORM. 'bulk': how many values and letters a reading holds, each counted each time it is reached (what is shared counts as often as it is met; a slice's spare places count too). A statement '..UptoSaid' is the law's where the arguments, and the package variables that the reading takes, are together of bulk at most 1048576: NARROWER than '..Said'. Prove '..Said' where nothing that the law and all that it calls make is longer than what came in: it says more and counts as full. Else prove '..UptoSaid'. A law counts once. -/
mutual
def uptoBulk {H : Type} : DataW H → Nat
  | .lit (.string bytes) => bytes.length + 1
  | .lit _ => 1
  | .nil => 1
  | .ptr d => uptoBulk d + 1
  | .slice elems spare => uptoBulkAll elems + uptoBulkAll spare + 1
  | .agg parts => uptoBulkAll parts + 1
  | .iface _ d => uptoBulk d + 1
  | .map entries => uptoBulkEntries entries + 1
  | .held _ => 1
def uptoBulkAll {H : Type} : List (DataW H) → Nat
  | [] => 0
  | d :: r => uptoBulk d + uptoBulkAll r
def uptoBulkEntries {H : Type} : List (Lit × DataW H) → Nat
  | [] => 0
  | x :: r => uptoBulkEntry x + uptoBulkEntries r
def uptoBulkEntry {H : Type} : Lit × DataW H → Nat
  | (.string bytes, d) => bytes.length + uptoBulk d + 1
  | (_, d) => uptoBulk d + 1
 end
def uptoSmall : (H : Type) → List (DataW H) → Bool := fun _ ds => decide (uptoBulkAll ds ≤ 1048576)
def OpenSpec.upto (s : _root_.Go.ChangeSpec) : _root_.Go.OpenSpec := { _root_.Go.OpenSpec.ofChange s with cond := some uptoSmall }

/-- 'bitcastlaw12.MasksShare', WHERE WHAT IT READS IS OF BULK AT MOST 1048576: true; the input reads as it did. -/
def masksShareUptoRow : OpenClaim := { program := "ytkhneohilohhiaa", sum := "93e091d0d494e70eb4d0f71eeabd123ef4d8724f5c8a5f843585307c41d16b70", func := "bitcast/bitcastlaw12.MasksShare", spec := "masksShare", unfollowed := true, recurses := true, apart := false, narrowed := true }
def MasksShareUptoSaid : Prop := masksShareUptoRow.holds Try.pinned (OpenSpec.upto masksShareSpec)

/-- 'bitcastlaw12.MasksAll', WHERE WHAT IT READS IS OF BULK AT MOST 1048576: true; the input reads as it did. -/
def masksAllUptoRow : OpenClaim := { program := "ytkhneohilohhiaa", sum := "93e091d0d494e70eb4d0f71eeabd123ef4d8724f5c8a5f843585307c41d16b70", func := "bitcast/bitcastlaw12.MasksAll", spec := "masksAll", unfollowed := true, recurses := true, apart := false, narrowed := true }
def MasksAllUptoSaid : Prop := masksAllUptoRow.holds Try.pinned (OpenSpec.upto masksAllSpec)

/-- 'bitcastlaw12.MasksDivide', WHERE WHAT IT READS IS OF BULK AT MOST 1048576: true; the input reads as it did. -/
def masksDivideUptoRow : OpenClaim := { program := "ytkhneohilohhiaa", sum := "93e091d0d494e70eb4d0f71eeabd123ef4d8724f5c8a5f843585307c41d16b70", func := "bitcast/bitcastlaw12.MasksDivide", spec := "masksDivide", unfollowed := true, recurses := true, apart := false, narrowed := true }
def MasksDivideUptoSaid : Prop := masksDivideUptoRow.holds Try.pinned (OpenSpec.upto masksDivideSpec)

/-- 'bitcastlaw12.MasksNext', WHERE WHAT IT READS IS OF BULK AT MOST 1048576: true; the input reads as it did. -/
def masksNextUptoRow : OpenClaim := { program := "ytkhneohilohhiaa", sum := "93e091d0d494e70eb4d0f71eeabd123ef4d8724f5c8a5f843585307c41d16b70", func := "bitcast/bitcastlaw12.MasksNext", spec := "masksNext", unfollowed := true, recurses := true, apart := false, narrowed := true }
def MasksNextUptoSaid : Prop := masksNextUptoRow.holds Try.pinned (OpenSpec.upto masksNextSpec)

/-- 'bitcastlaw12.MasksMember', WHERE WHAT IT READS IS OF BULK AT MOST 1048576: true; the input reads as it did. -/
def masksMemberUptoRow : OpenClaim := { program := "ytkhneohilohhiaa", sum := "93e091d0d494e70eb4d0f71eeabd123ef4d8724f5c8a5f843585307c41d16b70", func := "bitcast/bitcastlaw12.MasksMember", spec := "masksMember", unfollowed := true, recurses := true, apart := false, narrowed := true }
def MasksMemberUptoSaid : Prop := masksMemberUptoRow.holds Try.pinned (OpenSpec.upto masksMemberSpec)

/-- 'bitcastlaw12.MasksUsed', WHERE WHAT IT READS IS OF BULK AT MOST 1048576: true; the input reads as it did. -/
def masksUsedUptoRow : OpenClaim := { program := "ytkhneohilohhiaa", sum := "93e091d0d494e70eb4d0f71eeabd123ef4d8724f5c8a5f843585307c41d16b70", func := "bitcast/bitcastlaw12.MasksUsed", spec := "masksUsed", unfollowed := true, recurses := true, apart := false, narrowed := true }
def MasksUsedUptoSaid : Prop := masksUsedUptoRow.holds Try.pinned (OpenSpec.upto masksUsedSpec)

/-- 'bitcastlaw12.MasksRaw', WHERE WHAT IT READS IS OF BULK AT MOST 1048576: true; the input reads as it did. -/
def masksRawUptoRow : OpenClaim := { program := "ytkhneohilohhiaa", sum := "93e091d0d494e70eb4d0f71eeabd123ef4d8724f5c8a5f843585307c41d16b70", func := "bitcast/bitcastlaw12.MasksRaw", spec := "masksRaw", unfollowed := true, recurses := true, apart := false, narrowed := true }
def MasksRawUptoSaid : Prop := masksRawUptoRow.holds Try.pinned (OpenSpec.upto masksRawSpec)

end Rows
end Go.Proofs.Ytkhneohilohhiaa
