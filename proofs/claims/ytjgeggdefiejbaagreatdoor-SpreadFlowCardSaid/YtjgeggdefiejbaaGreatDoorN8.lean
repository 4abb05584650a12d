/-
  What functions of the program compute, stated as contracts over plain data; the conditions of each stand in its own statement.
-/
import Derived.Test.YtjgeggdefiejbaaGreatDoorM34
namespace Go.Proofs
open Go Go.Tr
theorem has_u8 {ds : List D} (h : (Ty.int .u8).has ds) : ∃ n : Int, ds = [.int .u8 n] ∧ 0 ≤ n ∧ n ≤ 255 := by
 simp only [Ty.has] at h
 obtain ⟨n, rfl, hw⟩ := h
 simp only [Lit.wf, Bool.and_eq_true, decide_eq_true_eq] at hw
 have m1 : IntKind.u8.min = 0 := by decide
 have m2 : IntKind.u8.max = 255 := by decide
 exact ⟨n, rfl, by omega, by omega⟩
end Go.Proofs
