/-
  What functions of the program compute, stated as contracts over plain data; the conditions of each stand in its own statement.
-/
import Derived.Test.YtkhneohilohhiaaE14
set_option linter.unusedSimpArgs false
set_option maxRecDepth 100000
set_option maxHeartbeats 2000000
namespace Go.Proofs
open Go Go.Tr
def mks (m : Mk) : List (List D) := m.map fun e => [D.int .i64 e.1, bv e.2]
theorem mks_get {m : Mk} {i : Nat} {e : Int × BitVec 64} (h : m[i]? = some e) : (mks m)[i]? = some [D.int .i64 e.1, .int .u64 (tn e.2)] := by simp [mks, h, bv]
@[simp] theorem mks_len (m : Mk) : (mks m).length = m.length := by simp [mks]
theorem mskD_eq (m : Mk) : mskD m = .sl (mks m) := rfl
theorem all_law (L : List Int) (hL : ∀ x ∈ L, I64 x) (plane set : Int) : Contract Try.prog 4 [.d (ints L), .d (.int .i64 plane), .d (.int .i64 set)] [] (.d (.bool true)) [] [] := by
  refine contract_of Try.func4 rfl (fun E0 => ?_)
  refine awp.sound (g := .mk) (ow := []) (kp := (fun k => k == 0 || k == 1 || k == 2 || k == 6 || k == 7 || k == 8 || k == 9 || k == 10 || k == 11 || k == 12 || k == 13 || k == 31 || k == 88 || k == 92 || k == 103)) ?_
  rw [Try.ntmps4]
  simp -dsimp
  refine ACall.of (new_c L) [] 0 ?_
  simp -dsimp
  have kT : TapeOK (L.take 600, 0) := tape_new L hL
  refine ACall.of (table_c _ kT 4 (by omega)) [.o 10] 0 ?_
  have hs := gTab_sm (L.take 600, 0) 4
  have kT1 : TapeOK (gTab (L.take 600, 0) 4).2 := by rw [gTab_tape]; exact kT
  generalize (gTab (L.take 600, 0) 4).1 = b at hs ⊢
  generalize (gTab (L.take 600, 0) 4).2 = T1 at kT1 ⊢
  simp -dsimp [tblT, rwsD_eq]
  refine ACall.of (rangeS_c T1 kT1 0 7 (by omega)) [.o 10] 0 ?_
  have k2 : TapeOK (gRange T1 0 7).2 := by simpa using kT1
  generalize gRange T1 0 7 = r1 at k2 ⊢
  simp -dsimp
  refine ACall.of (rangeS_c r1.2 k2 (-1) 8 (by omega)) [.o 10] 0 ?_
  have k3 : TapeOK (gRange r1.2 (-1) 8).2 := by simpa using k2
  generalize gRange r1.2 (-1) 8 = r2 at k3 ⊢
  simp -dsimp
  refine ACall.of (rangeS_c r2.2 k3 (-1) 2 (by omega)) [.o 10] 0 ?_
  generalize gRange r2.2 (-1) 2 = r3
  simp -dsimp
  generalize r3.2 = TT
  generalize r1.1 = a1
  generalize r2.1 = a2
  generalize r3.1 = a3
  as_aux_lemma =>
  refine ALoop.of [] (fun k => k == 0 || k == 1 || k == 2 || k == 6 || k == 7 || k == 8 || k == 9 || k == 10 || k == 11 || k == 12 || k == 13 || k == 31 || k == 88 || k == 92 || k == 103) (ι := { i : Nat // i ≤ 3 }) (fun z => [(Pl.s 0, It.v (TV.d (ints L))), (Pl.s 1, It.v (TV.d (D.int IntKind.i64 plane))), (Pl.s 2, It.v (TV.d (D.int IntKind.i64 set))), (Pl.s 6, It.v (TV.d (D.bool false))), (Pl.o 10, tapeI TT), (Pl.s 7, It.v (TV.ptr (Pl.o 10) 0)), (Pl.o 8, It.box [TV.d (D.int IntKind.i64 b.r), TV.d (D.int IntKind.i64 b.sd), TV.d (D.int IntKind.i64 b.len), TV.d (D.sl (rws b.rows))]), (Pl.s 8, It.v (TV.ptr (Pl.o 8) 0)), (Pl.o 9, It.box [TV.d (D.int IntKind.i64 plane), TV.d (D.int IntKind.i64 set), TV.d (D.int IntKind.i64 a1), TV.d (D.int IntKind.i64 0), TV.d (D.int IntKind.i64 a2), TV.d (D.int IntKind.i64 a3)]), (Pl.s 9, It.v (TV.ptr (Pl.o 9) 0)), (Pl.s 10, It.v (TV.d (D.int IntKind.i64 z.1)))]) (fun z => 3 - z.1) ⟨0, by omega⟩ ?_ ?_
  · exact GS.to (by simp)
  rintro ⟨i, i1⟩
  by_cases hi : i < 3
  · rcases (by omega : i = 0 ∨ i = 1 ∨ i = 2) with rfl | rfl | rfl
    · simp -dsimp
      have hA := all_c b hs plane set
      have hB := all12_c b hs plane set
      rw [allP_eq] at hA
      have hlen := allR_len b plane set 99
      have hR := reach_eq b set
      generalize allR b plane set 99 = P at hA hB hlen
      refine ACall.of hA [] 0 ?_
      simp -dsimp [tblT, rwsD_eq, mskD_eq]
      refine ACall.of hB [] 0 ?_
      simp -dsimp [tblT, rwsD_eq, mskD_eq]
      and_intros
      all_goals try first | rfl | omega | exact ⟨by kernel_rfl⟩
      refine ACall.of (local_c b hs set) [] 0 ?_
      rw [maskP_eq]
      simp -dsimp [tblT, rwsD_eq, mskD_eq, bv]
      refine ACall.of (local12_c b hs set) [] 0 ?_
      simp -dsimp [tblT, rwsD_eq, mskD_eq, bv]
      refine ACall.of (reach_c b hs set) [] 0 ?_
      rw [hR]
      simp -dsimp [tblT, rwsD_eq, mskD_eq, bv]
      refine ACall.of (reach12_c b hs set) [] 0 ?_
      simp -dsimp [tblT, rwsD_eq, mskD_eq, bv]
      and_intros
      all_goals try first | rfl | omega | exact ⟨by kernel_rfl⟩
      as_aux_lemma =>
      refine ALoop.of [] (fun k => k == 0 || k == 1 || k == 2 || k == 6 || k == 7 || k == 8 || k == 9 || k == 10 || k == 11 || k == 12 || k == 13 || k == 31 || k == 88 || k == 92 || k == 103) (ι := { i : Nat // i ≤ P.length }) (fun z => [(Pl.s 0, It.v (TV.d (ints L))), (Pl.s 1, It.v (TV.d (D.int IntKind.i64 plane))), (Pl.s 2, It.v (TV.d (D.int IntKind.i64 set))), (Pl.s 6, It.v (TV.d (D.bool false))), (Pl.o 10, tapeI TT), (Pl.s 7, It.v (TV.ptr (Pl.o 10) 0)), (Pl.o 8, It.box [TV.d (D.int IntKind.i64 b.r), TV.d (D.int IntKind.i64 b.sd), TV.d (D.int IntKind.i64 b.len), TV.d (D.sl (rws b.rows))]), (Pl.s 8, It.v (TV.ptr (Pl.o 8) 0)), (Pl.o 9, It.box [TV.d (D.int IntKind.i64 plane), TV.d (D.int IntKind.i64 set), TV.d (D.int IntKind.i64 a1), TV.d (D.int IntKind.i64 0), TV.d (D.int IntKind.i64 a2), TV.d (D.int IntKind.i64 a3)]), (Pl.s 9, It.v (TV.ptr (Pl.o 9) 0)), (Pl.s 10, It.v (TV.d (D.int IntKind.i64 0))), (Pl.s 11, It.v (TV.d (.sl (mks P)))), (Pl.s 12, It.v (TV.d (.sl (mks P)))), (Pl.s 13, It.v (TV.d (D.int IntKind.i64 z.1)))]) (fun z => P.length - z.1) ⟨0, by omega⟩ ?_ ?_
      · exact GS.to (by simp)
      rintro ⟨k, k1⟩
      by_cases hk : k < P.length
      · have hkz : (k : Int) < P.length := by omega
        have hx : P[k]? = some P[k] := List.getElem?_eq_getElem hk
        generalize P[k] = e at hx
        have hx' := mks_get hx
        simp -dsimp [hkz, hx', wrap_i64 (n := (k : Int) + 1) (by omega) (by omega)]
        and_intros
        all_goals try first | rfl | omega | exact ⟨by kernel_rfl⟩
        all_goals exact ⟨⟨k + 1, by omega⟩, GS.to (by simp), by simp; omega⟩
      · have hkz : ¬ (k : Int) < P.length := by omega
        obtain rfl : k = P.length := by omega
        simp -dsimp [hkz]
        exact ⟨⟨1, by omega⟩, GS.to (by simp [wrap_i64 (n := 1) (by omega) (by omega), wrap_i64 (n := 2) (by omega) (by omega), wrap_i64 (n := 3) (by omega) (by omega)]), by simp⟩
    · simp -dsimp
      have hA := all_c b hs a1 0
      have hB := all12_c b hs a1 0
      rw [allP_eq] at hA
      have hlen := allR_len b a1 0 99
      have hR := reach_eq b 0
      generalize allR b a1 0 99 = P at hA hB hlen
      refine ACall.of hA [] 0 ?_
      simp -dsimp [tblT, rwsD_eq, mskD_eq]
      refine ACall.of hB [] 0 ?_
      simp -dsimp [tblT, rwsD_eq, mskD_eq]
      and_intros
      all_goals try first | rfl | omega | exact ⟨by kernel_rfl⟩
      refine ACall.of (local_c b hs 0) [] 0 ?_
      rw [maskP_eq]
      simp -dsimp [tblT, rwsD_eq, mskD_eq, bv]
      refine ACall.of (local12_c b hs 0) [] 0 ?_
      simp -dsimp [tblT, rwsD_eq, mskD_eq, bv]
      refine ACall.of (reach_c b hs 0) [] 0 ?_
      rw [hR]
      simp -dsimp [tblT, rwsD_eq, mskD_eq, bv]
      refine ACall.of (reach12_c b hs 0) [] 0 ?_
      simp -dsimp [tblT, rwsD_eq, mskD_eq, bv]
      and_intros
      all_goals try first | rfl | omega | exact ⟨by kernel_rfl⟩
      as_aux_lemma =>
      refine ALoop.of [] (fun k => k == 0 || k == 1 || k == 2 || k == 6 || k == 7 || k == 8 || k == 9 || k == 10 || k == 11 || k == 12 || k == 13 || k == 31 || k == 88 || k == 92 || k == 103) (ι := { i : Nat // i ≤ P.length }) (fun z => [(Pl.s 0, It.v (TV.d (ints L))), (Pl.s 1, It.v (TV.d (D.int IntKind.i64 plane))), (Pl.s 2, It.v (TV.d (D.int IntKind.i64 set))), (Pl.s 6, It.v (TV.d (D.bool false))), (Pl.o 10, tapeI TT), (Pl.s 7, It.v (TV.ptr (Pl.o 10) 0)), (Pl.o 8, It.box [TV.d (D.int IntKind.i64 b.r), TV.d (D.int IntKind.i64 b.sd), TV.d (D.int IntKind.i64 b.len), TV.d (D.sl (rws b.rows))]), (Pl.s 8, It.v (TV.ptr (Pl.o 8) 0)), (Pl.o 9, It.box [TV.d (D.int IntKind.i64 plane), TV.d (D.int IntKind.i64 set), TV.d (D.int IntKind.i64 a1), TV.d (D.int IntKind.i64 0), TV.d (D.int IntKind.i64 a2), TV.d (D.int IntKind.i64 a3)]), (Pl.s 9, It.v (TV.ptr (Pl.o 9) 0)), (Pl.s 10, It.v (TV.d (D.int IntKind.i64 1))), (Pl.s 11, It.v (TV.d (.sl (mks P)))), (Pl.s 12, It.v (TV.d (.sl (mks P)))), (Pl.s 13, It.v (TV.d (D.int IntKind.i64 z.1)))]) (fun z => P.length - z.1) ⟨0, by omega⟩ ?_ ?_
      · exact GS.to (by simp)
      rintro ⟨k, k1⟩
      by_cases hk : k < P.length
      · have hkz : (k : Int) < P.length := by omega
        have hx : P[k]? = some P[k] := List.getElem?_eq_getElem hk
        generalize P[k] = e at hx
        have hx' := mks_get hx
        simp -dsimp [hkz, hx', wrap_i64 (n := (k : Int) + 1) (by omega) (by omega)]
        and_intros
        all_goals try first | rfl | omega | exact ⟨by kernel_rfl⟩
        all_goals exact ⟨⟨k + 1, by omega⟩, GS.to (by simp), by simp; omega⟩
      · have hkz : ¬ (k : Int) < P.length := by omega
        obtain rfl : k = P.length := by omega
        simp -dsimp [hkz]
        exact ⟨⟨2, by omega⟩, GS.to (by simp [wrap_i64 (n := 1) (by omega) (by omega), wrap_i64 (n := 2) (by omega) (by omega), wrap_i64 (n := 3) (by omega) (by omega)]), by simp⟩
    · simp -dsimp
      have hA := all_c b hs a2 a3
      have hB := all12_c b hs a2 a3
      rw [allP_eq] at hA
      have hlen := allR_len b a2 a3 99
      have hR := reach_eq b a3
      generalize allR b a2 a3 99 = P at hA hB hlen
      refine ACall.of hA [] 0 ?_
      simp -dsimp [tblT, rwsD_eq, mskD_eq]
      refine ACall.of hB [] 0 ?_
      simp -dsimp [tblT, rwsD_eq, mskD_eq]
      and_intros
      all_goals try first | rfl | omega | exact ⟨by kernel_rfl⟩
      refine ACall.of (local_c b hs a3) [] 0 ?_
      rw [maskP_eq]
      simp -dsimp [tblT, rwsD_eq, mskD_eq, bv]
      refine ACall.of (local12_c b hs a3) [] 0 ?_
      simp -dsimp [tblT, rwsD_eq, mskD_eq, bv]
      refine ACall.of (reach_c b hs a3) [] 0 ?_
      rw [hR]
      simp -dsimp [tblT, rwsD_eq, mskD_eq, bv]
      refine ACall.of (reach12_c b hs a3) [] 0 ?_
      simp -dsimp [tblT, rwsD_eq, mskD_eq, bv]
      and_intros
      all_goals try first | rfl | omega | exact ⟨by kernel_rfl⟩
      as_aux_lemma =>
      refine ALoop.of [] (fun k => k == 0 || k == 1 || k == 2 || k == 6 || k == 7 || k == 8 || k == 9 || k == 10 || k == 11 || k == 12 || k == 13 || k == 31 || k == 88 || k == 92 || k == 103) (ι := { i : Nat // i ≤ P.length }) (fun z => [(Pl.s 0, It.v (TV.d (ints L))), (Pl.s 1, It.v (TV.d (D.int IntKind.i64 plane))), (Pl.s 2, It.v (TV.d (D.int IntKind.i64 set))), (Pl.s 6, It.v (TV.d (D.bool false))), (Pl.o 10, tapeI TT), (Pl.s 7, It.v (TV.ptr (Pl.o 10) 0)), (Pl.o 8, It.box [TV.d (D.int IntKind.i64 b.r), TV.d (D.int IntKind.i64 b.sd), TV.d (D.int IntKind.i64 b.len), TV.d (D.sl (rws b.rows))]), (Pl.s 8, It.v (TV.ptr (Pl.o 8) 0)), (Pl.o 9, It.box [TV.d (D.int IntKind.i64 plane), TV.d (D.int IntKind.i64 set), TV.d (D.int IntKind.i64 a1), TV.d (D.int IntKind.i64 0), TV.d (D.int IntKind.i64 a2), TV.d (D.int IntKind.i64 a3)]), (Pl.s 9, It.v (TV.ptr (Pl.o 9) 0)), (Pl.s 10, It.v (TV.d (D.int IntKind.i64 2))), (Pl.s 11, It.v (TV.d (.sl (mks P)))), (Pl.s 12, It.v (TV.d (.sl (mks P)))), (Pl.s 13, It.v (TV.d (D.int IntKind.i64 z.1)))]) (fun z => P.length - z.1) ⟨0, by omega⟩ ?_ ?_
      · exact GS.to (by simp)
      rintro ⟨k, k1⟩
      by_cases hk : k < P.length
      · have hkz : (k : Int) < P.length := by omega
        have hx : P[k]? = some P[k] := List.getElem?_eq_getElem hk
        generalize P[k] = e at hx
        have hx' := mks_get hx
        simp -dsimp [hkz, hx', wrap_i64 (n := (k : Int) + 1) (by omega) (by omega)]
        and_intros
        all_goals try first | rfl | omega | exact ⟨by kernel_rfl⟩
        all_goals exact ⟨⟨k + 1, by omega⟩, GS.to (by simp), by simp; omega⟩
      · have hkz : ¬ (k : Int) < P.length := by omega
        obtain rfl : k = P.length := by omega
        simp -dsimp [hkz]
        exact ⟨⟨3, by omega⟩, GS.to (by simp [wrap_i64 (n := 1) (by omega) (by omega), wrap_i64 (n := 2) (by omega) (by omega), wrap_i64 (n := 3) (by omega) (by omega)]), by simp⟩
  · obtain rfl : i = 3 := by omega
    simp -dsimp
    refine ACall.of awake_c [] 0 ?_
    simp -dsimp
    refine Fin.of ?_
    simp
end Go.Proofs
