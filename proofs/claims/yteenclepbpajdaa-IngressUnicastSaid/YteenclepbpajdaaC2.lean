/-
  What functions of the program compute, stated as contracts over plain data; the conditions of each stand in its own statement.
-/
import Derived.Test.YteenclepbpajdaaH8
set_option linter.unusedSimpArgs false
set_option maxRecDepth 100000
set_option maxHeartbeats 2000000
namespace Go.Proofs
open Go Go.Tr

theorem inside11_c (n lo hi : Int) : Contract Try.prog 78 [.d (.int .i64 n), .d (.int .i64 lo), .d (.int .i64 hi)] [] (.d (.bool (inB n lo hi))) [] [] := by
  refine contract_of Try.func78 rfl (fun E0 => ?_)
  refine awp.sound (g := .mk) (ow := []) (kp := (fun k => k == 0 || k == 1 || k == 2 || k == 6)) ?_
  rw [Try.ntmps78]
  by_cases h : lo ≤ n
  · simp -dsimp [h]
    refine Fin.of ?_
    simp [inB, h]
  · simp -dsimp [h]
    refine Fin.of ?_
    simp [inB, h]
theorem in11_c (n lo hi : Int) : Contract Try.prog 70 [.d (.int .i64 n), .d (.int .i64 lo), .d (.int .i64 hi)] [] (.d (.bool (inB n lo hi))) [] [] := by
  refine contract_of Try.func70 rfl (fun E0 => ?_)
  refine awp.sound (g := .mk) (ow := []) (kp := (fun k => k == 0 || k == 1 || k == 2 || k == 6)) ?_
  rw [Try.ntmps70]
  by_cases h : lo ≤ n
  · simp -dsimp [h]
    refine Fin.of ?_
    simp [inB, h]
  · simp -dsimp [h]
    refine Fin.of ?_
    simp [inB, h]
def atB (set bit len : Int) : Bool := validLen len && (inB bit 0 (len - 1) && (inB set 0 31 && decide (set * len + bit + 1 ≤ 256)))
def atT (set bit len : Int) : TV := .tup [.d (.int .i64 (if atB set bit len then set * len + bit + 1 else 0)), .d (.bool (atB set bit len))]
end Go.Proofs
