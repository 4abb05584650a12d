/-
  What functions of the program compute, stated as contracts over plain data; the conditions of each stand in its own statement.
-/
import Derived.Test.YtkhgmgelbgondaaA5
import Derived.Test.YtkhgmgelbgondaaA4
set_option linter.unusedSimpArgs false
set_option maxRecDepth 100000
set_option maxHeartbeats 1000000
namespace Go.Proofs
open Go Go.Tr

theorem runion_c (a b : Flt) (ha : a.s.length ≤ 1000000) (hb : b.s.length ≤ 1000000) : Contract Try.prog 69 [fltT a, fltT b] [] (.tup [fltT (refC kOr a b).1, .d (.int .i64 (refC kOr a b).2)]) [] [] := by
  have hc := rcombine_c a b ha hb false
  rw [kB_false] at hc
  refine contract_of Try.func69 rfl (fun E0 => ?_)
  refine awp.sound (g := .mk) (ow := []) (kp := (fun k => k == 0 || k == 1 || k == 2 || k == 3 || k == 4 || k == 5)) ?_
  rw [Try.ntmps69]
  simp -dsimp [fltT]
  refine ACall.of hc [] 0 ?_
  simp -dsimp [fltT]
  refine Fin.of ?_
  simp [fltT]
theorem rwithin_c (a b : Flt) (ha : a.s.length ≤ 1000000) (hb : b.s.length ≤ 1000000) : Contract Try.prog 22 [fltT a, fltT b] [] (.d (.bool (wth a b))) [] [] := by
  refine contract_of Try.func22 rfl (fun E0 => ?_)
  refine awp.sound (g := .mk) (ow := []) (kp := (fun k => k == 0 || k == 1 || k == 2 || k == 3 || k == 4 || k == 5 || k == 7 || k == 18)) ?_
  rw [Try.ntmps22]
  simp -dsimp [fltT]
  refine ALoop.of [] (fun k => k == 0 || k == 1 || k == 2 || k == 3 || k == 4 || k == 5 || k == 7 || k == 18) (ι := { z : Nat // z ≤ 100 ∧ ∀ j : Nat, j < z → ¬ (wntV a ((j : Int) + 1) = true ∧ wntV b ((j : Int) + 1) = false) })
    (fun z => [(Pl.s 0, It.v (fltT a)), (Pl.s 1, It.v (fltT b)), (Pl.o 2, It.box [TV.d (D.int IntKind.i64 a.m), TV.d (ints a.s)]), (Pl.s 2, It.v (TV.ptr (Pl.o 2) 0)),
      (Pl.o 3, It.box [TV.d (D.int IntKind.i64 b.m), TV.d (ints b.s)]), (Pl.s 3, It.v (TV.ptr (Pl.o 3) 0)), (Pl.s 4, It.v (TV.d (D.bool false))), (Pl.s 5, It.v (TV.d (D.int IntKind.i64 (z.1 + 1))))]) (fun z => 100 - z.1) ⟨0, by omega, fun j h => by omega⟩ ?_ ?_
  · exact GS.to (by simp [fltT])
  · rintro ⟨i, i1, i2⟩
    by_cases hi : i < 100
    · have hiz : (i : Int) + 1 ≤ 100 := by omega
      simp -dsimp [hiz, fltT]
      refine ACall.of (rwants_c a ha (i + 1)) [] 0 ?_
      have hno : ¬ (wntV a ((i : Int) + 1) = true ∧ wntV b ((i : Int) + 1) = false) → ∀ j : Nat, j < i + 1 → ¬ (wntV a ((j : Int) + 1) = true ∧ wntV b ((j : Int) + 1) = false) := fun h j hj => by
        by_cases e : j = i
        · subst e; exact h
        · exact i2 j (by omega)
      rcases (Bool.eq_false_or_eq_true (wntV a ((i : Int) + 1))).symm with hx | hx
      · simp -dsimp [hx, fltT, wrap_i64 (n := (i : Int) + 1 + 1) (by omega) (by omega)]
        try refine ⟨?_, ⟨by kernel_rfl⟩⟩
        exact ⟨⟨i + 1, by omega, hno (fun h => by simp [hx] at h)⟩, GS.to (by simp [fltT]), by simp; omega⟩
      · simp -dsimp [hx, fltT]
        refine ACall.of (rwants_c b hb (i + 1)) [] 0 ?_
        rcases (Bool.eq_false_or_eq_true (wntV b ((i : Int) + 1))).symm with hy | hy
        · simp -dsimp [hx, hy, fltT]
          and_intros
          all_goals try first | rfl | exact ⟨by kernel_rfl⟩
          refine Fin.of ?_
          have : wth a b = false := by
            unfold wth
            have : ((rngI ++ [100]).all fun s => !(wntV a s && !wntV b s)) = false := by
              rw [List.all_eq_false]
              exact ⟨(i : Int) + 1, mem_rng1.2 ⟨by omega, hiz⟩, by simp [hx, hy]⟩
            rw [this]; simp
          simp [this]
        · simp -dsimp [hx, hy, fltT, wrap_i64 (n := (i : Int) + 1 + 1) (by omega) (by omega)]
          and_intros
          all_goals try first | rfl | exact ⟨by kernel_rfl⟩
          exact ⟨⟨i + 1, by omega, hno (fun h => by simp [hy] at h)⟩, GS.to (by simp [fltT]), by simp; omega⟩
    · obtain rfl : i = 100 := by omega
      have hall : ((rngI ++ [100]).all fun s => !(wntV a s && !wntV b s)) = true := by
        rw [List.all_eq_true]
        intro s hs
        obtain ⟨h1, h2⟩ := mem_rng1.1 hs
        have := i2 (s - 1).toNat (by omega)
        rw [show ((s - 1).toNat : Int) + 1 = s by omega] at this
        cases hx : wntV a s <;> cases hy : wntV b s <;> simp [hx, hy] at this ⊢
      simp -dsimp [fltT]
      refine ACall.of (rvalidate_c a ha) [] 0 ?_
      by_cases h0 : vld a = 0
      · simp -dsimp [fltT, h0]
        refine ACall.of (rvalidate_c b hb) [] 0 ?_
        simp -dsimp [fltT, h0]
        and_intros
        all_goals try first | rfl | exact ⟨by kernel_rfl⟩
        refine Fin.of ?_
        have hw : wth a b = decide (vld b = 0) := by unfold wth; rw [hall]; simp [h0]
        simp [hw]
      · simp -dsimp [fltT, h0]
        and_intros
        all_goals try first | rfl | exact ⟨by kernel_rfl⟩
        refine Fin.of ?_
        simp [wth, h0]
end Go.Proofs
