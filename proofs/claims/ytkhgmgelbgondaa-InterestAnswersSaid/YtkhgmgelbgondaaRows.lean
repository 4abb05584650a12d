/-
  No cell of these rows narrows 'for every input' (looked for: loops, veiled, ifaces, maps, wideKeys, modest, calm, conditions, laid).
  DERIVED. THE GIVEN ROWS OF THIS SEAT. 4 by the template 'for every input the law returns true; each argument reads behind the call as it read before'; 0 by the template 'total and deterministic' (their statements: YtkhgmgelbgondaaTotals.lean).
  GIVEN WITH THE SEED: the statements are not yours to turn. If you find one false, say at which input.
  Laid BY PROGRAM, IN A SANDBOX (cutbox-rows.mjs): the forced cells as the released guide's own fill.sh prints them over the translation a92639dc47307d77… (all of the seat's roots in one cut). By AI agents, Wed Nov 11 2026. No macro, syntax, notation, axiom, sorry.
-/
import Derived.Test.YtkhgmgelbgondaaChecked
import GoSem.Claim
import GoSem.ClaimJoined
import GoSem.ClaimMapViews
import Derived.JoinedTies
import Derived.KernelRfl
namespace Go.Proofs.Ytkhgmgelbgondaa
/- THE CELL 'sum', in the pinned program and in every row, IS THE sha256 OF THE DUMP (.gsa) THAT YtkhgmgelbgondaaProg.lean LOADS. Nothing in Lean hashes anything: it is a label: what it is worth is what the hold of that sum in a sandbox is worth. -/
noncomputable def Try.pinned : Pinned := { name := "ytkhgmgelbgondaa", sum := "a92639dc47307d774cc1362dbafc1445192a12e0930531029e4152c27e8778d3", checked := Try.checked }
namespace Rows
def none {H : Type} : Left H := { results := [], args := [] }

/-- 'bitcastlaw24.InterestHosts': WHATEVER THE INPUT: true; the input reads as it did. -/
def interestHostsSpec : ChangeSpec := { name := "interestHosts", fn := fun _ => fun
  | [d] => { results := [.lit (.bool true)], args := [d] }
  | _ => none }
def interestHostsRow : OpenClaim := { program := "ytkhgmgelbgondaa", sum := "a92639dc47307d774cc1362dbafc1445192a12e0930531029e4152c27e8778d3", func := "bitcast/bitcastlaw24.InterestHosts", spec := "interestHosts", unfollowed := true, recurses := true, apart := false }
def InterestHostsSaid : Prop := interestHostsRow.holds Try.pinned (OpenSpec.ofChange interestHostsSpec)

/-- ITS FALSE NEIGHBOUR: 'it returns false'. Refute it at one input. -/
def interestHostsWrong : ChangeSpec := { name := "interestHosts", fn := fun _ => fun
  | [d] => { results := [.lit (.bool false)], args := [d] }
  | _ => none }
def InterestHostsWrongFalsely : Prop := interestHostsRow.holds Try.pinned (OpenSpec.ofChange interestHostsWrong)

/-- 'bitcastlaw24.InterestMembers': WHATEVER THE INPUT: true; the input reads as it did. -/
def interestMembersSpec : ChangeSpec := { name := "interestMembers", fn := fun _ => fun
  | [d] => { results := [.lit (.bool true)], args := [d] }
  | _ => none }
def interestMembersRow : OpenClaim := { program := "ytkhgmgelbgondaa", sum := "a92639dc47307d774cc1362dbafc1445192a12e0930531029e4152c27e8778d3", func := "bitcast/bitcastlaw24.InterestMembers", spec := "interestMembers", unfollowed := true, recurses := true, apart := false }
def InterestMembersSaid : Prop := interestMembersRow.holds Try.pinned (OpenSpec.ofChange interestMembersSpec)

/-- ITS FALSE NEIGHBOUR: 'it returns false'. Refute it at one input. -/
def interestMembersWrong : ChangeSpec := { name := "interestMembers", fn := fun _ => fun
  | [d] => { results := [.lit (.bool false)], args := [d] }
  | _ => none }
def InterestMembersWrongFalsely : Prop := interestMembersRow.holds Try.pinned (OpenSpec.ofChange interestMembersWrong)

/-- 'bitcastlaw24.InterestChanges': WHATEVER THE INPUT: true; the input reads as it did. -/
def interestChangesSpec : ChangeSpec := { name := "interestChanges", fn := fun _ => fun
  | [d1, d2] => { results := [.lit (.bool true)], args := [d1, d2] }
  | _ => none }
def interestChangesRow : OpenClaim := { program := "ytkhgmgelbgondaa", sum := "a92639dc47307d774cc1362dbafc1445192a12e0930531029e4152c27e8778d3", func := "bitcast/bitcastlaw24.InterestChanges", spec := "interestChanges", unfollowed := true, recurses := true, apart := false }
def InterestChangesSaid : Prop := interestChangesRow.holds Try.pinned (OpenSpec.ofChange interestChangesSpec)

/-- ITS FALSE NEIGHBOUR: 'it returns false'. Refute it at one input. -/
def interestChangesWrong : ChangeSpec := { name := "interestChanges", fn := fun _ => fun
  | [d1, d2] => { results := [.lit (.bool false)], args := [d1, d2] }
  | _ => none }
def InterestChangesWrongFalsely : Prop := interestChangesRow.holds Try.pinned (OpenSpec.ofChange interestChangesWrong)

/-- 'bitcastlaw24.InterestAnswers': WHATEVER THE INPUT: true; the input reads as it did. -/
def interestAnswersSpec : ChangeSpec := { name := "interestAnswers", fn := fun _ => fun
  | [d1, d2, d3, d4, d5] => { results := [.lit (.bool true)], args := [d1, d2, d3, d4, d5] }
  | _ => none }
def interestAnswersRow : OpenClaim := { program := "ytkhgmgelbgondaa", sum := "a92639dc47307d774cc1362dbafc1445192a12e0930531029e4152c27e8778d3", func := "bitcast/bitcastlaw24.InterestAnswers", spec := "interestAnswers", unfollowed := true, recurses := true, apart := false }
def InterestAnswersSaid : Prop := interestAnswersRow.holds Try.pinned (OpenSpec.ofChange interestAnswersSpec)

/-- ITS FALSE NEIGHBOUR: 'it returns false'. Refute it at one input. -/
def interestAnswersWrong : ChangeSpec := { name := "interestAnswers", fn := fun _ => fun
  | [d1, d2, d3, d4, d5] => { results := [.lit (.bool false)], args := [d1, d2, d3, d4, d5] }
  | _ => none }
def InterestAnswersWrongFalsely : Prop := interestAnswersRow.holds Try.pinned (OpenSpec.ofChange interestAnswersWrong)

/- THE SECOND FORM. 'bulk': how many values and letters a reading holds, each counted each time it is reached (what is shared counts as often as it is met; a slice's spare places count too). A statement '..UptoSaid' is the law's where the arguments, and the package variables that the reading takes, are together of bulk at most 1048576: NARROWER than '..Said'. Prove '..Said' where nothing that the law and all that it calls make is longer than what came in: it says more and counts as full. Else prove '..UptoSaid'. A law counts once. -/
mutual
def uptoBulk {H : Type} : DataW H → Nat
  | .lit (.string bytes) => bytes.length + 1
  | .lit _ => 1
  | .nil => 1
  | .ptr d => uptoBulk d + 1
  | .slice elems spare => uptoBulkAll elems + uptoBulkAll spare + 1
  | .agg parts => uptoBulkAll parts + 1
  | .iface _ d => uptoBulk d + 1
  | .map entries => uptoBulkEntries entries + 1
  | .held _ => 1
def uptoBulkAll {H : Type} : List (DataW H) → Nat
  | [] => 0
  | d :: r => uptoBulk d + uptoBulkAll r
def uptoBulkEntries {H : Type} : List (Lit × DataW H) → Nat
  | [] => 0
  | x :: r => uptoBulkEntry x + uptoBulkEntries r
def uptoBulkEntry {H : Type} : Lit × DataW H → Nat
  | (.string bytes, d) => bytes.length + uptoBulk d + 1
  | (_, d) => uptoBulk d + 1
 end
def uptoSmall : (H : Type) → List (DataW H) → Bool := fun _ ds => decide (uptoBulkAll ds ≤ 1048576)
def OpenSpec.upto (s : _root_.Go.ChangeSpec) : _root_.Go.OpenSpec := { _root_.Go.OpenSpec.ofChange s with cond := some uptoSmall }

/-- 'bitcastlaw24.InterestHosts', WHERE WHAT IT READS IS OF BULK AT MOST 1048576: true; the input reads as it did. -/
def interestHostsUptoRow : OpenClaim := { program := "ytkhgmgelbgondaa", sum := "a92639dc47307d774cc1362dbafc1445192a12e0930531029e4152c27e8778d3", func := "bitcast/bitcastlaw24.InterestHosts", spec := "interestHosts", unfollowed := true, recurses := true, apart := false, narrowed := true }
def InterestHostsUptoSaid : Prop := interestHostsUptoRow.holds Try.pinned (OpenSpec.upto interestHostsSpec)

/-- 'bitcastlaw24.InterestMembers', WHERE WHAT IT READS IS OF BULK AT MOST 1048576: true; the input reads as it did. -/
def interestMembersUptoRow : OpenClaim := { program := "ytkhgmgelbgondaa", sum := "a92639dc47307d774cc1362dbafc1445192a12e0930531029e4152c27e8778d3", func := "bitcast/bitcastlaw24.InterestMembers", spec := "interestMembers", unfollowed := true, recurses := true, apart := false, narrowed := true }
def InterestMembersUptoSaid : Prop := interestMembersUptoRow.holds Try.pinned (OpenSpec.upto interestMembersSpec)

/-- 'bitcastlaw24.InterestChanges', WHERE WHAT IT READS IS OF BULK AT MOST 1048576: true; the input reads as it did. -/
def interestChangesUptoRow : OpenClaim := { program := "ytkhgmgelbgondaa", sum := "a92639dc47307d774cc1362dbafc1445192a12e0930531029e4152c27e8778d3", func := "bitcast/bitcastlaw24.InterestChanges", spec := "interestChanges", unfollowed := true, recurses := true, apart := false, narrowed := true }
def InterestChangesUptoSaid : Prop := interestChangesUptoRow.holds Try.pinned (OpenSpec.upto interestChangesSpec)

/-- 'bitcastlaw24.InterestAnswers', WHERE WHAT IT READS IS OF BULK AT MOST 1048576: true; the input reads as it did. -/
def interestAnswersUptoRow : OpenClaim := { program := "ytkhgmgelbgondaa", sum := "a92639dc47307d774cc1362dbafc1445192a12e0930531029e4152c27e8778d3", func := "bitcast/bitcastlaw24.InterestAnswers", spec := "interestAnswers", unfollowed := true, recurses := true, apart := false, narrowed := true }
def InterestAnswersUptoSaid : Prop := interestAnswersUptoRow.holds Try.pinned (OpenSpec.upto interestAnswersSpec)

end Rows
end Go.Proofs.Ytkhgmgelbgondaa
