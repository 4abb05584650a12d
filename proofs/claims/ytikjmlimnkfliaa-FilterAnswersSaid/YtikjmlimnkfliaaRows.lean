/-
  No cell of these rows narrows 'for every input' (looked for: loops, veiled, ifaces, maps, wideKeys, modest, calm, conditions, laid).
  DERIVED. THE GIVEN ROWS OF THIS SEAT. 4 by the template 'for every input the law returns true; each argument reads behind the call as it read before'; 0 by the template 'total and deterministic' (their statements: YtikjmlimnkfliaaTotals.lean).
  GIVEN WITH THE SEED: the statements are not yours to turn. If you find one false, say at which input.
  Laid BY PROGRAM, IN A SANDBOX (cutbox-rows.mjs): the forced cells as the released guide's own fill.sh prints them over the translation 74a773bd0281028e… (all of the seat's roots in one cut). By AI agents, Wed Nov 11 2026. No macro, syntax, notation, axiom, sorry.
-/
import Derived.Test.YtikjmlimnkfliaaChecked
import GoSem.Claim
import GoSem.ClaimJoined
import GoSem.ClaimMapViews
import Derived.JoinedTies
import Derived.KernelRfl
namespace Go.Proofs.Ytikjmlimnkfliaa
/- THE CELL 'sum', in the pinned program and in every row, IS THE sha256 OF THE DUMP (.gsa) THAT YtikjmlimnkfliaaProg.lean LOADS. Nothing in Lean hashes anything: it is a label: what it is worth is what the hold of that sum in a sandbox is worth. -/
noncomputable def Try.pinned : Pinned := { name := "ytikjmlimnkfliaa", sum := "74a773bd0281028ed52f5b86e309959abd2db1bc530d24cce4803a0e5bcdb386", checked := Try.checked }
namespace Rows
def none {H : Type} : Left H := { results := [], args := [] }

/-- 'bitcastlaw22.FilterLattice': WHATEVER THE INPUT: true; the input reads as it did. -/
def filterLatticeSpec : ChangeSpec := { name := "filterLattice", fn := fun _ => fun
  | [d] => { results := [.lit (.bool true)], args := [d] }
  | _ => none }
def filterLatticeRow : OpenClaim := { program := "ytikjmlimnkfliaa", sum := "74a773bd0281028ed52f5b86e309959abd2db1bc530d24cce4803a0e5bcdb386", func := "bitcast/bitcastlaw22.FilterLattice", spec := "filterLattice", unfollowed := true, recurses := true, apart := false }
def FilterLatticeSaid : Prop := filterLatticeRow.holds Try.pinned (OpenSpec.ofChange filterLatticeSpec)

/-- ITS FALSE NEIGHBOUR: 'it returns false'. Refute it at one input. -/
def filterLatticeWrong : ChangeSpec := { name := "filterLattice", fn := fun _ => fun
  | [d] => { results := [.lit (.bool false)], args := [d] }
  | _ => none }
def FilterLatticeWrongFalsely : Prop := filterLatticeRow.holds Try.pinned (OpenSpec.ofChange filterLatticeWrong)

/-- 'bitcastlaw22.FilterPoints': WHATEVER THE INPUT: true; the input reads as it did. -/
def filterPointsSpec : ChangeSpec := { name := "filterPoints", fn := fun _ => fun
  | [d] => { results := [.lit (.bool true)], args := [d] }
  | _ => none }
def filterPointsRow : OpenClaim := { program := "ytikjmlimnkfliaa", sum := "74a773bd0281028ed52f5b86e309959abd2db1bc530d24cce4803a0e5bcdb386", func := "bitcast/bitcastlaw22.FilterPoints", spec := "filterPoints", unfollowed := true, recurses := true, apart := false }
def FilterPointsSaid : Prop := filterPointsRow.holds Try.pinned (OpenSpec.ofChange filterPointsSpec)

/-- ITS FALSE NEIGHBOUR: 'it returns false'. Refute it at one input. -/
def filterPointsWrong : ChangeSpec := { name := "filterPoints", fn := fun _ => fun
  | [d] => { results := [.lit (.bool false)], args := [d] }
  | _ => none }
def FilterPointsWrongFalsely : Prop := filterPointsRow.holds Try.pinned (OpenSpec.ofChange filterPointsWrong)

/-- 'bitcastlaw22.FilterOrder': WHATEVER THE INPUT: true; the input reads as it did. -/
def filterOrderSpec : ChangeSpec := { name := "filterOrder", fn := fun _ => fun
  | [d] => { results := [.lit (.bool true)], args := [d] }
  | _ => none }
def filterOrderRow : OpenClaim := { program := "ytikjmlimnkfliaa", sum := "74a773bd0281028ed52f5b86e309959abd2db1bc530d24cce4803a0e5bcdb386", func := "bitcast/bitcastlaw22.FilterOrder", spec := "filterOrder", unfollowed := true, recurses := true, apart := false }
def FilterOrderSaid : Prop := filterOrderRow.holds Try.pinned (OpenSpec.ofChange filterOrderSpec)

/-- ITS FALSE NEIGHBOUR: 'it returns false'. Refute it at one input. -/
def filterOrderWrong : ChangeSpec := { name := "filterOrder", fn := fun _ => fun
  | [d] => { results := [.lit (.bool false)], args := [d] }
  | _ => none }
def FilterOrderWrongFalsely : Prop := filterOrderRow.holds Try.pinned (OpenSpec.ofChange filterOrderWrong)

/-- 'bitcastlaw22.FilterAnswers': WHATEVER THE INPUT: true; the input reads as it did. -/
def filterAnswersSpec : ChangeSpec := { name := "filterAnswers", fn := fun _ => fun
  | [d1, d2, d3, d4] => { results := [.lit (.bool true)], args := [d1, d2, d3, d4] }
  | _ => none }
def filterAnswersRow : OpenClaim := { program := "ytikjmlimnkfliaa", sum := "74a773bd0281028ed52f5b86e309959abd2db1bc530d24cce4803a0e5bcdb386", func := "bitcast/bitcastlaw22.FilterAnswers", spec := "filterAnswers", unfollowed := true, recurses := true, apart := false }
def FilterAnswersSaid : Prop := filterAnswersRow.holds Try.pinned (OpenSpec.ofChange filterAnswersSpec)

/-- ITS FALSE NEIGHBOUR: 'it returns false'. Refute it at one input. -/
def filterAnswersWrong : ChangeSpec := { name := "filterAnswers", fn := fun _ => fun
  | [d1, d2, d3, d4] => { results := [.lit (.bool false)], args := [d1, d2, d3, d4] }
  | _ => none }
def FilterAnswersWrongFalsely : Prop := filterAnswersRow.holds Try.pinned (OpenSpec.ofChange filterAnswersWrong)

/- THE SECOND FORM. 'bulk': how many values and letters a reading holds, each counted each time it is reached (what is shared counts as often as it is met; a slice's spare places count too). A statement '..UptoSaid' is the law's where the arguments, and the package variables that the reading takes, are together of bulk at most 1048576: NARROWER than '..Said'. Prove '..Said' where nothing that the law and all that it calls make is longer than what came in: it says more and counts as full. Else prove '..UptoSaid'. A law counts once. -/
mutual
def uptoBulk {H : Type} : DataW H → Nat
  | .lit (.string bytes) => bytes.length + 1
  | .lit _ => 1
  | .nil => 1
  | .ptr d => uptoBulk d + 1
  | .slice elems spare => uptoBulkAll elems + uptoBulkAll spare + 1
  | .agg parts => uptoBulkAll parts + 1
  | .iface _ d => uptoBulk d + 1
  | .map entries => uptoBulkEntries entries + 1
  | .held _ => 1
def uptoBulkAll {H : Type} : List (DataW H) → Nat
  | [] => 0
  | d :: r => uptoBulk d + uptoBulkAll r
def uptoBulkEntries {H : Type} : List (Lit × DataW H) → Nat
  | [] => 0
  | x :: r => uptoBulkEntry x + uptoBulkEntries r
def uptoBulkEntry {H : Type} : Lit × DataW H → Nat
  | (.string bytes, d) => bytes.length + uptoBulk d + 1
  | (_, d) => uptoBulk d + 1
 end
def uptoSmall : (H : Type) → List (DataW H) → Bool := fun _ ds => decide (uptoBulkAll ds ≤ 1048576)
def OpenSpec.upto (s : _root_.Go.ChangeSpec) : _root_.Go.OpenSpec := { _root_.Go.OpenSpec.ofChange s with cond := some uptoSmall }

/-- 'bitcastlaw22.FilterLattice', WHERE WHAT IT READS IS OF BULK AT MOST 1048576: true; the input reads as it did. -/
def filterLatticeUptoRow : OpenClaim := { program := "ytikjmlimnkfliaa", sum := "74a773bd0281028ed52f5b86e309959abd2db1bc530d24cce4803a0e5bcdb386", func := "bitcast/bitcastlaw22.FilterLattice", spec := "filterLattice", unfollowed := true, recurses := true, apart := false, narrowed := true }
def FilterLatticeUptoSaid : Prop := filterLatticeUptoRow.holds Try.pinned (OpenSpec.upto filterLatticeSpec)

/-- 'bitcastlaw22.FilterPoints', WHERE WHAT IT READS IS OF BULK AT MOST 1048576: true; the input reads as it did. -/
def filterPointsUptoRow : OpenClaim := { program := "ytikjmlimnkfliaa", sum := "74a773bd0281028ed52f5b86e309959abd2db1bc530d24cce4803a0e5bcdb386", func := "bitcast/bitcastlaw22.FilterPoints", spec := "filterPoints", unfollowed := true, recurses := true, apart := false, narrowed := true }
def FilterPointsUptoSaid : Prop := filterPointsUptoRow.holds Try.pinned (OpenSpec.upto filterPointsSpec)

/-- 'bitcastlaw22.FilterOrder', WHERE WHAT IT READS IS OF BULK AT MOST 1048576: true; the input reads as it did. -/
def filterOrderUptoRow : OpenClaim := { program := "ytikjmlimnkfliaa", sum := "74a773bd0281028ed52f5b86e309959abd2db1bc530d24cce4803a0e5bcdb386", func := "bitcast/bitcastlaw22.FilterOrder", spec := "filterOrder", unfollowed := true, recurses := true, apart := false, narrowed := true }
def FilterOrderUptoSaid : Prop := filterOrderUptoRow.holds Try.pinned (OpenSpec.upto filterOrderSpec)

/-- 'bitcastlaw22.FilterAnswers', WHERE WHAT IT READS IS OF BULK AT MOST 1048576: true; the input reads as it did. -/
def filterAnswersUptoRow : OpenClaim := { program := "ytikjmlimnkfliaa", sum := "74a773bd0281028ed52f5b86e309959abd2db1bc530d24cce4803a0e5bcdb386", func := "bitcast/bitcastlaw22.FilterAnswers", spec := "filterAnswers", unfollowed := true, recurses := true, apart := false, narrowed := true }
def FilterAnswersUptoSaid : Prop := filterAnswersUptoRow.holds Try.pinned (OpenSpec.upto filterAnswersSpec)

end Rows
end Go.Proofs.Ytikjmlimnkfliaa
