/-
  What functions of the program compute, stated as contracts over plain data; the conditions of each stand in its own statement.
-/
import Derived.Test.YtbjbhnidedfcfaaJ5
import Derived.Test.YtbjbhnidedfcfaaH8
set_option linter.unusedSimpArgs false
set_option maxRecDepth 100000
set_option maxHeartbeats 1000000
namespace Go.Proofs
open Go Go.Tr

theorem gIntsL_ok (lo hi : Int) : ∀ (n : Nat) (T : Tp) (l : List Int), TapeOK (gIntsL lo hi n T l).2 = TapeOK T
  | 0, _, _ => rfl
  | n + 1, T, l => by rw [gIntsL, gIntsL_ok lo hi n]; simp
@[simp] theorem gInts_ok (T : Tp) (m lo hi : Int) : TapeOK (gInts T m lo hi).2 = TapeOK T := by simp [gInts, gIntsL_ok]
theorem gIntsL_len (lo hi : Int) : ∀ (n : Nat) (T : Tp) (l : List Int), (gIntsL lo hi n T l).1.length = l.length + n
  | 0, _, _ => rfl
  | n + 1, T, l => by rw [gIntsL, gIntsL_len lo hi n]; simp; omega
theorem gInts_len (T : Tp) (m lo hi : Int) (h : 0 ≤ m) : ((gInts T m lo hi).1.length : Int) ≤ m := by
  have := gRange_lo T 0 m
  have := gRange_hi T (a := 0) (b := m) h
  simp [gInts, gIntsL_len]
  omega
@[simp] theorem tape_obj (T : Tp) : isObj (tapeI T) = true := rfl
theorem compares_law (t raw other : List Int) (ht : ∀ x ∈ t, I64 x) (hr : raw.length ≤ 9223372036854775807) (ho : other.length ≤ 9223372036854775807) : Contract Try.prog 3 [.d (ints t), .d (ints raw), .d (ints other)] [] (.d (.bool true)) [] [] := by
  refine contract_of Try.func3 rfl (fun E0 => ?_)
  refine awp.sound (g := .mk) (ow := []) (kp := (fun k => k == 0 || k == 1 || k == 2 || k == 6 || k == 7 || k == 8 || k == 9 || k == 10 || k == 11 || k == 12 || k == 13 || k == 14 || k == 15 || k == 38 || k == 82)) ?_
  rw [Try.ntmps3]
  simp -dsimp
  refine ACall.of (new_c t) [] 0 ?_
  simp -dsimp
  have k0 : TapeOK (t.take 600, 0) := ⟨by simp; omega, fun x hx => ht x (List.mem_of_mem_take hx)⟩
  generalize (t.take 600, 0) = T0 at k0 ⊢
  refine ACall.of (tints_c T0 k0 6 1 8 ⟨by omega, by omega⟩ ⟨by omega, by omega, by omega⟩) [.o 10] 0 ?_
  have k1 : TapeOK (gInts T0 6 1 8).2 := by simpa using k0
  have l1 := gInts_len T0 6 1 8 (by omega)
  generalize gInts T0 6 1 8 = R1 at k1 l1 ⊢
  simp -dsimp
  refine ACall.of (tints_c R1.2 k1 8 1 8 ⟨by omega, by omega⟩ ⟨by omega, by omega, by omega⟩) [.o 10] 0 ?_
  have l2 := gInts_len R1.2 8 1 8 (by omega)
  generalize gInts R1.2 8 1 8 = R2 at l2 ⊢
  simp -dsimp
  by_cases hb : raw.length ≤ 200 ∧ other.length ≤ 200
  · have hr2 : (raw.length : Int) ≤ 200 := by omega
    have ho2 : (other.length : Int) ≤ 200 := by omega
    obtain ⟨hb1, hb2⟩ := hb
    refine ALoop.of [] (fun k => k == 0 || k == 1 || k == 2 || k == 6 || k == 7 || k == 8 || k == 9 || k == 10 || k == 11 || k == 12 || k == 13 || k == 14 || k == 15 || k == 38 || k == 82) (ι := { i : Nat // i ≤ 2 })
      (fun z => [(Pl.s 0, It.v (TV.d (ints t))), (Pl.s 1, It.v (TV.d (ints raw))), (Pl.s 2, It.v (TV.d (ints other))), (Pl.s 6, It.v (TV.d (D.bool false))), (Pl.o 10, tapeI R2.2), (Pl.s 7, It.v (TV.ptr (Pl.o 10) 0)),
        (Pl.o 8, It.box [TV.d (ints raw), TV.d (ints other), TV.d (ints R1.1), TV.d (ints R2.1)]), (Pl.s 8, It.v (TV.ptr (Pl.o 8) 0)), (Pl.s 9, It.v (TV.d (D.int IntKind.i64 z.1)))]) (fun z => 2 - z.1) ⟨0, by omega⟩ ?_ ?_
    · exact GS.to (by simp)
    · rintro ⟨i, hi⟩
      obtain rfl | rfl | rfl : i = 0 ∨ i = 1 ∨ i = 2 := by omega
      · have hc := missing_c raw other (by omega) (by omega)
        rw [missT_same] at hc
        have hd := missing17_c raw other (by omega) (by omega)
        have x1 := ms_len other raw []
        have x2 := ms_len raw other []
        have x3 := rp_len other other.length
        generalize raw.foldl (msF other) [] = X at hc hd x1
        generalize other.foldl (msF raw) [] = Y at hc hd x2
        generalize rpF other other.length = Z at hc hd x3
        simp -dsimp [ints, hr2, ho2]
        try refine ⟨?_, ⟨by kernel_rfl⟩⟩
        refine ACall.of hc [] 0 ?_
        simp -dsimp [ints, missT]
        try refine ⟨?_, ⟨by kernel_rfl⟩⟩
        refine ACall.of hd [] 0 ?_
        simp -dsimp [missT, ints]
        try refine ⟨?_, ⟨by kernel_rfl⟩⟩
        simp at x1 x2
        refine ACall.of (ints04_c X X (by omega)) [] 0 ?_
        simp -dsimp [ints]
        refine ACall.of (ints04_c Y Y (by omega)) [] 0 ?_
        simp -dsimp [ints]
        refine ACall.of (ints04_c Z Z (by omega)) [] 0 ?_
        simp -dsimp [ints, wrap_i64 (n := 1) (by omega) (by omega)]
        exact ⟨⟨1, by omega⟩, GS.to (by simp [ints]), by simp⟩
      · have hc := missing_c R1.1 R2.1 (by omega) (by omega)
        rw [missT_same] at hc
        have hd := missing17_c R1.1 R2.1 (by omega) (by omega)
        have x1 := ms_len R2.1 R1.1 []
        have x2 := ms_len R1.1 R2.1 []
        have x3 := rp_len R2.1 R2.1.length
        generalize R1.1.foldl (msF R2.1) [] = X at hc hd x1
        generalize R2.1.foldl (msF R1.1) [] = Y at hc hd x2
        generalize rpF R2.1 R2.1.length = Z at hc hd x3
        simp -dsimp [ints, hr2, ho2]
        try refine ⟨?_, ⟨by kernel_rfl⟩⟩
        refine ACall.of hc [] 0 ?_
        simp -dsimp [ints, missT]
        try refine ⟨?_, ⟨by kernel_rfl⟩⟩
        refine ACall.of hd [] 0 ?_
        simp -dsimp [missT, ints]
        try refine ⟨?_, ⟨by kernel_rfl⟩⟩
        simp at x1 x2
        refine ACall.of (ints04_c X X (by omega)) [] 0 ?_
        simp -dsimp [ints]
        refine ACall.of (ints04_c Y Y (by omega)) [] 0 ?_
        simp -dsimp [ints]
        refine ACall.of (ints04_c Z Z (by omega)) [] 0 ?_
        simp -dsimp [ints, wrap_i64 (n := 2) (by omega) (by omega)]
        exact ⟨⟨2, by omega⟩, GS.to (by simp [ints]), by simp⟩
      · simp -dsimp [ints, hr2, ho2]
        refine ACall.of awake_c [] 0 ?_
        simp -dsimp
        refine Fin.of ?_
        simp
  · refine ALoop.of [] (fun k => k == 0 || k == 1 || k == 2 || k == 6 || k == 7 || k == 8 || k == 9 || k == 10 || k == 11 || k == 12 || k == 13 || k == 14 || k == 15 || k == 38 || k == 82) (ι := Unit)
      (fun z => [(Pl.s 0, It.v (TV.d (ints t))), (Pl.s 1, It.v (TV.d (ints raw))), (Pl.s 2, It.v (TV.d (ints other))), (Pl.s 6, It.v (TV.d (D.bool false))), (Pl.o 10, tapeI R2.2), (Pl.s 7, It.v (TV.ptr (Pl.o 10) 0)),
        (Pl.o 8, It.box [TV.d (ints raw), TV.d (ints other), TV.d (ints R1.1), TV.d (ints R2.1)]), (Pl.s 8, It.v (TV.ptr (Pl.o 8) 0)), (Pl.s 9, It.v (TV.d (D.int IntKind.i64 0)))]) (fun z => 0) () ?_ ?_
    · exact GS.to (by simp)
    · rintro ⟨⟩
      by_cases hr2 : (raw.length : Int) ≤ 200
      · have ho2 : ¬ (other.length : Int) ≤ 200 := by omega
        simp -dsimp [ints, hr2, ho2]
        refine ACall.of awake_c [] 0 ?_
        simp -dsimp
        refine Fin.of ?_
        simp
      · simp -dsimp [ints, hr2]
        refine ACall.of awake_c [] 0 ?_
        simp -dsimp
        refine Fin.of ?_
        simp
end Go.Proofs
