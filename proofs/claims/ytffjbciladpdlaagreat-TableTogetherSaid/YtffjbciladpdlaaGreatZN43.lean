/-
  What functions of the program compute, stated as contracts over plain data; the conditions of each stand in its own statement.
-/
import Derived.Test.YtffjbciladpdlaaGreatZN35
set_option linter.unusedSimpArgs false
set_option linter.unusedVariables false
set_option maxRecDepth 100000
set_option maxHeartbeats 16000000
namespace Go.Proofs
open Go Go.Tr
def bigB (b : Tb) : Bool := (b.rows.any fun x => decide (60 < x.nx.length)) || decide (300 < b.rows.length)
theorem big_c (b : Tb) (h1 : b.rows.length ≤ 9223372036854775807) (h2 : ∀ x ∈ b.rows, x.nx.length ≤ 9223372036854775807) : Contract Tryz.prog 34 [tblT b] [] (.d (.bool (bigB b))) [] [] := by
 refine contract_of Tryz.func34 rfl (fun E0 => ?_)
 refine awp.sound (g := .mk) (ow := []) (kp := (fun k => k==0||k==1||k==2||k==3||k==8||k==18)) ?_
 rw [Tryz.ntmps34]
 simp -dsimp [tblT, rwsD_eq]
 refine ALoop.of [] (fun k => k==0||k==1||k==2||k==3||k==8||k==18) (ι := { i : Nat // i ≤ b.rows.length ∧ (b.rows.any fun x => decide (60 < x.nx.length)) = (b.rows.drop i).any fun x => decide (60 < x.nx.length) })
  (fun z => [(Pl.o 1, It.box [.d (.int .i64 b.r), .d (.int .i64 b.sd), .d (.int .i64 b.len), .d (.sl (rws b.rows))]), (Pl.s 1, It.v (.ptr (.o 1) 0)), (Pl.s 2, It.v (.d (.bool false))), (Pl.s 3, It.v (.d (.int .i64 z.1)))])
  (fun z => b.rows.length - z.1) ⟨0, by omega, rfl⟩ ?_ ?_
 ·exact GS.to (by simp)
 ·rintro ⟨i, i1, i2⟩
  by_cases hi : i < b.rows.length
  ·have hiz : (i : Int) < b.rows.length := by omega
   have hx : b.rows[i]? = some b.rows[i] := List.getElem?_eq_getElem hi
   generalize b.rows[i] = x at hx
   have hx' := rws_get hx
   have w1 : IntKind.i64.wrap ((i : Int) + 1) = (i : Int) + 1 := wrap_i64 (by omega) (by omega)
   by_cases h : 60 < x.nx.length
   ·have hz : (60 : Int) < x.nx.length := by omega
    simp -dsimp [hiz, hx', hz, ints, h]
    and_intros
    all_goals try first | rfl | omega | exact ⟨by kernel_rfl⟩
    refine Fin.of ?_
    have e := any_hit (q := fun x : Rw => decide (60 < x.nx.length)) hx (by simpa using h)
    simp only [bigB, e]; simp
   ·have hz : ¬ (60 : Int) < x.nx.length := by omega
    simp -dsimp [hiz, hx', hz, ints, h, w1]
    and_intros
    all_goals try first | rfl | omega | exact ⟨by kernel_rfl⟩
    exact ⟨⟨i + 1, by omega, any_step hx i2 (by simpa using h)⟩, GS.to (by simp), by simp; omega⟩
  ·have hiz : ¬ (i : Int) < b.rows.length := by omega
   have e := any_end i2 hi
   by_cases h : 300 < b.rows.length
   ·have hz : (300 : Int) < b.rows.length := by omega
    simp -dsimp [hiz, hz, h]
    and_intros
    all_goals try first | rfl | omega | exact ⟨by kernel_rfl⟩
    refine Fin.of ?_
    simp [bigB, h]
   ·have hz : ¬ (300 : Int) < b.rows.length := by omega
    simp -dsimp [hiz, hz, h]
    and_intros
    all_goals try first | rfl | omega | exact ⟨by kernel_rfl⟩
    refine Fin.of ?_
    simp only [bigB, e, h]; simp
theorem bigB_sm {b : Tb} (h : bigB b = false) : b.Sm := by
 unfold bigB at h
 simp only [Bool.or_eq_false_iff, decide_eq_false_iff_not, List.any_eq_false, decide_eq_true_eq] at h
 exact ⟨by omega, fun x hx => by have := h.1 x hx; omega⟩
end Go.Proofs
