/-
  What functions of the program compute, stated as contracts over plain data; the conditions of each stand in its own statement.
-/
import Derived.Test.YteenclepbpajdaaG9
set_option linter.unusedSimpArgs false
set_option maxRecDepth 100000
set_option maxHeartbeats 2000000
namespace Go.Proofs
open Go Go.Tr

def inB (n lo hi : Int) : Bool := decide (lo ≤ n) && decide (n ≤ hi)
theorem inside10_c (n lo hi : Int) : Contract Try.prog 43 [.d (.int .i64 n), .d (.int .i64 lo), .d (.int .i64 hi)] [] (.d (.bool (inB n lo hi))) [] [] := by
  refine contract_of Try.func43 rfl (fun E0 => ?_)
  refine awp.sound (g := .mk) (ow := []) (kp := (fun k => k == 0 || k == 1 || k == 2 || k == 6)) ?_
  rw [Try.ntmps43]
  by_cases h : lo ≤ n
  · simp -dsimp [h]
    refine Fin.of ?_
    simp [inB, h]
  · simp -dsimp [h]
    refine Fin.of ?_
    simp [inB, h]
theorem in10_c (n lo hi : Int) : Contract Try.prog 79 [.d (.int .i64 n), .d (.int .i64 lo), .d (.int .i64 hi)] [] (.d (.bool (inB n lo hi))) [] [] := by
  refine contract_of Try.func79 rfl (fun E0 => ?_)
  refine awp.sound (g := .mk) (ow := []) (kp := (fun k => k == 0 || k == 1 || k == 2 || k == 6)) ?_
  rw [Try.ntmps79]
  by_cases h : lo ≤ n
  · simp -dsimp [h]
    refine Fin.of ?_
    simp [inB, h]
  · simp -dsimp [h]
    refine Fin.of ?_
    simp [inB, h]

open Classical in
noncomputable def repB (l : List Int) : Bool := decide (∃ i j, j < i ∧ i < l.length ∧ l.getD i 0 = l.getD j 0)
theorem repB_true {l : List Int} {i j : Nat} (h1 : j < i) (h2 : i < l.length) (h3 : l.getD i 0 = l.getD j 0) : repB l = true := by
  simp only [repB, decide_eq_true_eq]
  exact ⟨i, j, h1, h2, h3⟩
theorem repB_false {l : List Int} (h : ∀ i j, j < i → i < l.length → l.getD i 0 ≠ l.getD j 0) : repB l = false := by
  simp only [repB, decide_eq_false_iff_not]
  rintro ⟨i, j, h1, h2, h3⟩
  exact h i j h1 h2 h3
theorem repeats_c (l : List Int) (hl : l.length ≤ 100000) : Contract Try.prog 45 [.d (ints l)] [] (.d (.bool (repB l))) [] [] := by
  refine contract_of Try.func45 rfl (fun E0 => ?_)
  refine awp.sound (g := .mk) (ow := []) (kp := (fun k => k == 0 || k == 2 || k == 3 || k == 4 || k == 8 || k == 13 || k == 24)) ?_
  rw [Try.ntmps45]
  simp -dsimp
  refine ALoop.of [] (fun k => k == 0 || k == 2 || k == 3 || k == 4 || k == 8 || k == 13 || k == 24) (ι := { i : Nat // i ≤ l.length ∧ ∀ a b, b < a → a < i → l.getD a 0 ≠ l.getD b 0 }) (fun z => [(Pl.s 0, It.v (.d (ints l))), (Pl.s 3, It.v (TV.d (D.int IntKind.i64 z.1)))]) (fun z => l.length - z.1) ⟨0, by omega, fun a b _ h => by omega⟩ ?_ ?_
  · exact GS.to (by simp)
  · rintro ⟨i, i1, i2⟩
    by_cases hi : i < l.length
    · simp -dsimp [ints, hi]
      refine ALoop.of [] (fun k => k == 0 || k == 2 || k == 3 || k == 4 || k == 8 || k == 13 || k == 24) (ι := { j : Nat // j ≤ i ∧ ∀ b, b < j → l.getD i 0 ≠ l.getD b 0 }) (fun z => [(Pl.s 0, It.v (.d (ints l))), (Pl.s 3, It.v (TV.d (D.int IntKind.i64 i))), (Pl.s 4, It.v (TV.d (D.int IntKind.i64 z.1)))]) (fun z => i - z.1) ⟨0, by omega, fun b h => by omega⟩ ?_ ?_
      · exact GS.to (by simp [ints])
      · rintro ⟨j, j1, j2⟩
        by_cases hj : j < i
        · have hj2 : j < l.length := by omega
          have gi : l.getD i 0 = l[i] := by simp [List.getD, hi]
          have gj : l.getD j 0 = l[j] := by simp [List.getD, hj2]
          simp -dsimp [ints, hi, hj, hj2]
          refine ⟨AIf.dec (fun h => ?_) (fun h => ?_), ⟨by kernel_rfl⟩⟩
          · simp -dsimp
            refine Fin.of ?_
            simp
            exact repB_true hj hi (by rw [gi, gj, h])
          · simp -dsimp [wrap_i64 (n := (j : Int) + 1) (by omega) (by omega)]
            exact ⟨⟨j + 1, by omega, fun b hb => by
              by_cases e : b = j
              · subst e; rw [gi, gj]; exact h
              · exact j2 b (by omega)⟩, GS.to (by simp [ints]), by simp; omega⟩
        · simp -dsimp [ints, hi, hj, wrap_i64 (n := (i : Int) + 1) (by omega) (by omega)]
          exact ⟨⟨i + 1, by omega, fun a b h1 h2 => by
            by_cases e : a = i
            · subst e; exact j2 b (by omega)
            · exact i2 a b h1 (by omega)⟩, GS.to (by simp [ints]), by simp; omega⟩
    · simp -dsimp [ints, hi]
      refine Fin.of ?_
      simp
      exact repB_false fun a b h1 h2 => i2 a b h1 (by omega)
end Go.Proofs
