/-
  What functions of the program compute, stated as contracts over plain data; the conditions of each stand in its own statement.
-/
import Derived.Test.YtkhneohilohhiaaE13
import Derived.Test.YtkhneohilohhiaaV5
set_option linter.unusedSimpArgs false
set_option maxRecDepth 100000
set_option maxHeartbeats 2000000
namespace Go.Proofs
open Go Go.Tr
theorem rangeS_c (T : Tp) (hT : TapeOK T) (a b : Int) (h : -1000 ≤ a ∧ a ≤ b ∧ b ≤ 1000) : Contract Try.prog 14 [.ptr (.x 0) 0, .d (.int .i64 a), .d (.int .i64 b)] [tapeI T] (.d (.int .i64 (gRange T a b).1)) [tapeI (gRange T a b).2] [] := by
  have h1 := gRange_lo T a b
  have h2 := gRange_hi T (a := a) (b := b) (by omega)
  exact range_c T hT a b ⟨by omega, by omega⟩ ⟨by omega, by omega⟩ ⟨by omega, by omega⟩ ⟨by omega, by omega⟩
theorem next_law (L : List Int) (hL : ∀ x ∈ L, I64 x) (id plane set nb : Int) : Contract Try.prog 6 [.d (ints L), .d (.int .i64 id), .d (.int .i64 plane), .d (.int .i64 set), .d (.int .i64 nb)] [] (.d (.bool true)) [] [] := by
  refine contract_of Try.func6 rfl (fun E0 => ?_)
  refine awp.sound (g := .mk) (ow := []) (kp := (fun k => k == 0 || k == 1 || k == 2 || k == 3 || k == 4 || k == 10 || k == 11 || k == 12 || k == 13 || k == 14 || k == 15 || k == 45 || k == 82)) ?_
  rw [Try.ntmps6]
  simp -dsimp
  refine ACall.of (new_c L) [] 0 ?_
  simp -dsimp
  have kT : TapeOK (L.take 600, 0) := tape_new L hL
  refine ACall.of (table_c _ kT 4 (by omega)) [.o 10] 0 ?_
  have hs := gTab_sm (L.take 600, 0) 4
  have kT1 : TapeOK (gTab (L.take 600, 0) 4).2 := by rw [gTab_tape]; exact kT
  generalize (gTab (L.take 600, 0) 4).1 = b at hs ⊢
  generalize (gTab (L.take 600, 0) 4).2 = T1 at kT1 ⊢
  simp -dsimp [tblT, rwsD_eq]
  refine ACall.of (rangeS_c T1 kT1 0 9 (by omega)) [.o 10] 0 ?_
  have k2 : TapeOK (gRange T1 0 9).2 := by simpa using kT1
  generalize gRange T1 0 9 = r1 at k2 ⊢
  simp -dsimp
  refine ACall.of (rangeS_c r1.2 k2 0 7 (by omega)) [.o 10] 0 ?_
  have k3 : TapeOK (gRange r1.2 0 7).2 := by simpa using k2
  generalize gRange r1.2 0 7 = r2 at k3 ⊢
  simp -dsimp
  refine ACall.of (rangeS_c r2.2 k3 0 1 (by omega)) [.o 10] 0 ?_
  have k4 : TapeOK (gRange r2.2 0 1).2 := by simpa using k3
  generalize gRange r2.2 0 1 = r3 at k4 ⊢
  simp -dsimp
  refine ACall.of (rangeS_c r3.2 k4 0 7 (by omega)) [.o 10] 0 ?_
  have k5 : TapeOK (gRange r3.2 0 7).2 := by simpa using k4
  generalize gRange r3.2 0 7 = r4 at k5 ⊢
  simp -dsimp
  refine ACall.of (rangeS_c r4.2 k5 1 5 (by omega)) [.o 10] 0 ?_
  have k6 : TapeOK (gRange r4.2 1 5).2 := by simpa using k5
  generalize gRange r4.2 1 5 = r5 at k6 ⊢
  simp -dsimp
  refine ACall.of (rangeS_c r5.2 k6 (-1) 8 (by omega)) [.o 10] 0 ?_
  have k7 : TapeOK (gRange r5.2 (-1) 8).2 := by simpa using k6
  generalize gRange r5.2 (-1) 8 = r6 at k7 ⊢
  simp -dsimp
  refine ACall.of (rangeS_c r6.2 k7 (-1) 32 (by omega)) [.o 10] 0 ?_
  have k8 : TapeOK (gRange r6.2 (-1) 32).2 := by simpa using k7
  generalize gRange r6.2 (-1) 32 = r7 at k8 ⊢
  simp -dsimp
  refine ACall.of (rangeS_c r7.2 k8 1 6 (by omega)) [.o 10] 0 ?_
  generalize gRange r7.2 1 6 = r8
  simp -dsimp
  generalize r8.2 = TT
  generalize r1.1 = a1
  generalize r2.1 = a2
  generalize r3.1 = a3
  generalize r4.1 = a4
  generalize r5.1 = a5
  generalize r6.1 = a6
  generalize r7.1 = a7
  generalize r8.1 = a8
  as_aux_lemma =>
  refine ALoop.of [] (fun k => k == 0 || k == 1 || k == 2 || k == 3 || k == 4 || k == 10 || k == 11 || k == 12 || k == 13 || k == 14 || k == 15 || k == 45 || k == 82) (ι := { i : Nat // i ≤ 3 }) (fun z => [(Pl.s 0, It.v (TV.d (ints L))), (Pl.s 1, It.v (TV.d (D.int IntKind.i64 id))), (Pl.s 2, It.v (TV.d (D.int IntKind.i64 plane))), (Pl.s 3, It.v (TV.d (D.int IntKind.i64 set))),
    (Pl.s 4, It.v (TV.d (D.int IntKind.i64 nb))), (Pl.s 10, It.v (TV.d (D.bool false))), (Pl.o 10, tapeI TT), (Pl.s 11, It.v (TV.ptr (Pl.o 10) 0)),
    (Pl.o 12, It.box [TV.d (D.int IntKind.i64 b.r), TV.d (D.int IntKind.i64 b.sd), TV.d (D.int IntKind.i64 b.len), TV.d (D.sl (rws b.rows))]), (Pl.s 12, It.v (TV.ptr (Pl.o 12) 0)),
    (Pl.o 13, It.box [TV.d (D.int IntKind.i64 id), TV.d (D.int IntKind.i64 plane), TV.d (D.int IntKind.i64 set), TV.d (D.int IntKind.i64 nb), TV.d (D.int IntKind.i64 a1), TV.d (D.int IntKind.i64 a2),
        TV.d (D.int IntKind.i64 a3), TV.d (D.int IntKind.i64 a4), TV.d (D.int IntKind.i64 a5), TV.d (D.int IntKind.i64 a6), TV.d (D.int IntKind.i64 a7), TV.d (D.int IntKind.i64 a8)]),
    (Pl.s 13, It.v (TV.ptr (Pl.o 13) 0)), (Pl.s 14, It.v (TV.d (D.int IntKind.i64 z.1)))]) (fun z => 3 - z.1) ⟨0, by omega⟩ ?_ ?_
  · exact GS.to (by simp)
  rintro ⟨i, i1⟩
  by_cases hi : i < 3
  · rcases (by omega : i = 0 ∨ i = 1 ∨ i = 2) with rfl | rfl | rfl
    · simp -dsimp
      refine ACall.of (mnext_c b hs id plane) [] 0 ?_
      simp -dsimp [tblT, rwsD_eq]
      refine ACall.of (next12_c b hs id plane) [] 0 ?_
      simp -dsimp [tblT, rwsD_eq]
      refine ACall.of (mask_c b hs plane set nb) [] 0 ?_
      rw [maskP_eq]
      simp -dsimp [tblT, rwsD_eq, bv]
      refine ACall.of (mask12_c b hs plane set nb) [] 0 ?_
      simp -dsimp [tblT, rwsD_eq, bv]
      and_intros
      all_goals try first | rfl | omega | exact ⟨by kernel_rfl⟩
      all_goals exact ⟨⟨1, by omega⟩, GS.to (by simp [wrap_i64 (n := 1) (by omega) (by omega), wrap_i64 (n := 2) (by omega) (by omega), wrap_i64 (n := 3) (by omega) (by omega)]), by simp⟩
    · simp -dsimp
      refine ACall.of (mnext_c b hs a1 a2) [] 0 ?_
      simp -dsimp [tblT, rwsD_eq]
      refine ACall.of (next12_c b hs a1 a2) [] 0 ?_
      simp -dsimp [tblT, rwsD_eq]
      refine ACall.of (mask_c b hs a2 a3 a4) [] 0 ?_
      rw [maskP_eq]
      simp -dsimp [tblT, rwsD_eq, bv]
      refine ACall.of (mask12_c b hs a2 a3 a4) [] 0 ?_
      simp -dsimp [tblT, rwsD_eq, bv]
      and_intros
      all_goals try first | rfl | omega | exact ⟨by kernel_rfl⟩
      all_goals exact ⟨⟨2, by omega⟩, GS.to (by simp [wrap_i64 (n := 1) (by omega) (by omega), wrap_i64 (n := 2) (by omega) (by omega), wrap_i64 (n := 3) (by omega) (by omega)]), by simp⟩
    · simp -dsimp
      refine ACall.of (mnext_c b hs a5 a6) [] 0 ?_
      simp -dsimp [tblT, rwsD_eq]
      refine ACall.of (next12_c b hs a5 a6) [] 0 ?_
      simp -dsimp [tblT, rwsD_eq]
      refine ACall.of (mask_c b hs a6 a7 a8) [] 0 ?_
      rw [maskP_eq]
      simp -dsimp [tblT, rwsD_eq, bv]
      refine ACall.of (mask12_c b hs a6 a7 a8) [] 0 ?_
      simp -dsimp [tblT, rwsD_eq, bv]
      and_intros
      all_goals try first | rfl | omega | exact ⟨by kernel_rfl⟩
      all_goals exact ⟨⟨3, by omega⟩, GS.to (by simp [wrap_i64 (n := 1) (by omega) (by omega), wrap_i64 (n := 2) (by omega) (by omega), wrap_i64 (n := 3) (by omega) (by omega)]), by simp⟩
  · obtain rfl : i = 3 := by omega
    simp -dsimp
    refine ACall.of awake_c [] 0 ?_
    simp -dsimp
    refine Fin.of ?_
    simp
end Go.Proofs
