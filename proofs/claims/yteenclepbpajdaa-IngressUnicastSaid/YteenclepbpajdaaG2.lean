/-
  What functions of the program compute, stated as contracts over plain data; the conditions of each stand in its own statement.
-/
import Derived.Test.YteenclepbpajdaaG1
set_option linter.unusedSimpArgs false
namespace Go.Proofs
open Go Go.Tr

def bv (B : BitVec 64) : D := .int .u64 (tn B)
def validLen (n : Int) : Bool := n == 8 || n == 16 || n == 32 || n == 64
def bitB (k : Int) : BitVec 64 := if k < 0 ∨ k > 63 then 0#64 else 1#64 <<< (IntKind.u64.wrap k).toNat

theorem validLength_c (n : Int) : Contract Try.prog 44 [.d (.int .i64 n)] [] (.d (.bool (validLen n))) [] [] := by
  refine contract_of Try.func44 rfl (fun E0 => ?_)
  refine awp.sound (g := .mk) (ow := []) (kp := (fun k => k == 0 || k == 2)) ?_
  rw [Try.ntmps44]
  by_cases h1 : n = 8 <;> by_cases h2 : n = 16 <;> by_cases h3 : n = 32 <;> first
    | omega
    | (simp -dsimp [h1, h2, h3]
       refine Fin.of ?_
       simp [validLen, h1, h2, h3])
theorem validLength_c2 (n : Int) : Contract Try.prog 71 [.d (.int .i64 n)] [] (.d (.bool (validLen n))) [] [] := by
  refine contract_of Try.func71 rfl (fun E0 => ?_)
  refine awp.sound (g := .mk) (ow := []) (kp := (fun k => k == 0 || k == 2)) ?_
  rw [Try.ntmps71]
  by_cases h1 : n = 8 <;> by_cases h2 : n = 16 <;> by_cases h3 : n = 32 <;> first
    | omega
    | (simp -dsimp [h1, h2, h3]
       refine Fin.of ?_
       simp [validLen, h1, h2, h3])
/-- the bits below n -/
def fullN : Nat → BitVec 64
  | 0 => 0#64
  | n + 1 => fullN n ||| bitB n
def fullB (n : Int) : BitVec 64 := if validLen n = true then fullN n.toNat else 0#64
def gTextL : Nat → Tp → List Int × Tp
  | 0, T => ([], T)
  | n + 1, T => ((gNext T 256).1 :: (gTextL n (gNext T 256).2).1, (gTextL n (gNext T 256).2).2)
def gText (T : Tp) (most : Int) : List Int × Tp := gTextL (gRange T 0 most).1.toNat (gRange T 0 most).2
end Go.Proofs
