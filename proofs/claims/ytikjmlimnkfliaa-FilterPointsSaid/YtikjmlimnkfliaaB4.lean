/-
  What functions of the program compute, stated as contracts over plain data; the conditions of each stand in its own statement.
-/
import Derived.Test.YtikjmlimnkfliaaB2
set_option linter.unusedSimpArgs false
set_option maxRecDepth 100000
set_option maxHeartbeats 4000000
namespace Go.Proofs
open Go Go.Tr

theorem fwants_ok {f : Flt} (h : f.Ok) {k : Int} (hk : 0 < k) : Contract Try.prog 17 [fltT f, .d (.int .i64 k)] [] (.d (.bool (wnt f k))) [] [] := by
  have := fwants_c f (Nat.le_trans (ok_le h) (by omega)) k
  rwa [wntV_ok h hk] at this
theorem fvalidate_ok {f : Flt} (h : f.Ok) : Contract Try.prog 16 [fltT f] [] (.d (.int .i64 0)) [] [] := by
  have := validate_c f (Nat.le_trans (ok_le h) (by omega))
  rwa [h.vld] at this
theorem fwants_no (f : Flt) (hf : f.s.length ≤ 1000000) {k : Int} (hk : ¬ 0 < k) : Contract Try.prog 17 [fltT f, .d (.int .i64 k)] [] (.d (.bool false)) [] [] := by
  have := fwants_c f hf k
  have e : wntV f k = false := by simp [wntV, hk]
  rwa [e] at this
theorem points_law (t : List Int) (ht : ∀ x ∈ t, I64 x) : Contract Try.prog 4 [.d (ints t)] [] (.d (.bool true)) [] [] := by
  refine contract_of Try.func4 rfl (fun E0 => ?_)
  refine awp.sound (g := .mk) (ow := []) (kp := (fun k => k == 0 || k == 2 || k == 3 || k == 4 || k == 5 || k == 6 || k == 7 || k == 8 || k == 9 || k == 10 || k == 11 || k == 12 || k == 13 || k == 14 || k == 57 || k == 59 || k == 92)) ?_
  rw [Try.ntmps4]
  simp -dsimp
  refine ACall.of (new_c t) [] 2000 ?_
  simp -dsimp
  have k0 : TapeOK (t.take 2000, 0) := ⟨by simp; omega, fun x hx => ht x (List.mem_of_mem_take hx)⟩
  generalize (t.take 2000, 0) = T0 at k0 ⊢
  refine ACall.of (filter_c T0 k0) [.o 2009] 0 ?_
  have oka := gFlt_flt T0
  have kk0 : TapeOK (gFlt T0).2 := by simpa using k0
  generalize gFlt T0 = R0 at oka kk0 ⊢
  obtain ⟨a, T1⟩ := R0
  simp only at oka kk0 ⊢
  have k1 := kk0
  simp -dsimp [fltT]
  as_aux_lemma =>
  refine ACall.of (filter_c T1 k1) [.o 2009] 0 ?_
  have okb := gFlt_flt T1
  have kk1 : TapeOK (gFlt T1).2 := by simpa using k1
  generalize gFlt T1 = R1 at okb kk1 ⊢
  obtain ⟨b, T2⟩ := R1
  simp only at okb kk1 ⊢
  have k2 := kk1
  simp -dsimp [fltT]
  as_aux_lemma =>
  have okU := combR_ok (K := kOr) oka okb
  have okM := combR_ok (K := kAnd) oka okb
  have okN := combR_ok (K := kNot) oka oka
  have wU : ∀ k, wnt (combR kOr a b) k = (wnt a k || wnt b k) := fun k => combR_wnt oka okb k
  have wM : ∀ k, wnt (combR kAnd a b) k = (wnt a k && wnt b k) := fun k => combR_wnt oka okb k
  have wN : ∀ k, wnt (combR kNot a a) k = !wnt a k := fun k => combR_wnt oka oka k
  have cU := union_ok oka okb
  have cM := meet_ok oka okb
  have cN := complement_ok oka
  generalize combR kOr a b = u at okU wU cU
  generalize combR kAnd a b = m at okM wM cM
  generalize combR kNot a a = n at okN wN cN
  refine ACall.of cU [] 0 ?_
  simp -dsimp [fltT]
  refine ACall.of cM [] 0 ?_
  simp -dsimp [fltT]
  refine ACall.of cN [] 0 ?_
  simp -dsimp [fltT]
  as_aux_lemma =>
  refine ACall.of (fvalidate_ok okU) [] 0 ?_
  simp -dsimp [fltT]
  refine ACall.of (fvalidate_ok okM) [] 0 ?_
  simp -dsimp [fltT]
  as_aux_lemma =>
  refine ALoop.of [] (fun k => k == 0 || k == 2 || k == 3 || k == 4 || k == 5 || k == 6 || k == 7 || k == 8 || k == 9 || k == 10 || k == 11 || k == 12 || k == 13 || k == 14 || k == 57 || k == 59 || k == 92) (ι := { i : Nat // i ≤ 101 })
    (fun z => [(Pl.s 0, It.v (TV.d (ints t))), (Pl.s 2, It.v (TV.d (D.bool false))), (Pl.o 2009, tapeI T2), (Pl.s 3, It.v (TV.ptr (Pl.o 2009) 0)),
      (Pl.o 4, It.box [TV.d (D.int IntKind.i64 a.m), TV.d (ints a.s)]), (Pl.s 4, It.v (TV.ptr (Pl.o 4) 0)), (Pl.o 5, It.box [TV.d (D.int IntKind.i64 b.m), TV.d (ints b.s)]), (Pl.s 5, It.v (TV.ptr (Pl.o 5) 0)),
      (Pl.o 6, It.box [TV.d (D.int IntKind.i64 u.m), TV.d (ints u.s)]), (Pl.s 6, It.v (TV.ptr (Pl.o 6) 0)), (Pl.o 8, It.box [TV.d (D.int IntKind.i64 m.m), TV.d (ints m.s)]), (Pl.s 8, It.v (TV.ptr (Pl.o 8) 0)),
      (Pl.o 10, It.box [TV.d (D.int IntKind.i64 n.m), TV.d (ints n.s)]), (Pl.s 10, It.v (TV.ptr (Pl.o 10) 0)), (Pl.s 12, It.v (TV.d (D.int IntKind.i64 (z.1 + 1))))]) (fun z => 101 - z.1) ⟨0, by omega⟩ ?_ ?_
  · exact GS.to (by simp)
  · rintro ⟨i, i1⟩
    by_cases hi : i < 101
    · have hiz : (i : Int) + 1 ≤ 101 := by omega
      have ca := fwants_ok oka (k := (i : Int) + 1) (by omega)
      have cb := fwants_ok okb (k := (i : Int) + 1) (by omega)
      have cu := fwants_ok okU (k := (i : Int) + 1) (by omega)
      have cm := fwants_ok okM (k := (i : Int) + 1) (by omega)
      have cn := fwants_ok okN (k := (i : Int) + 1) (by omega)
      rw [wU] at cu
      rw [wM] at cm
      rw [wN] at cn
      generalize wnt a ((i : Int) + 1) = x at ca cu cm cn
      generalize wnt b ((i : Int) + 1) = y at cb cu cm
      simp -dsimp [hiz]
      cases x <;> cases y
      all_goals
        refine ACall.of ca [] 0 ?_
        simp -dsimp [fltT]
        refine ACall.of cb [] 0 ?_
        simp -dsimp [fltT]
        and_intros
        all_goals try first | rfl | exact ⟨by kernel_rfl⟩
        refine ACall.of cu [] 0 ?_
        simp -dsimp [fltT]
        refine ACall.of cm [] 0 ?_
        simp -dsimp [fltT]
        refine ACall.of cn [] 0 ?_
        simp -dsimp [fltT, wrap_i64 (n := (i : Int) + 1 + 1) (by omega) (by omega)]
        and_intros
        all_goals try first | rfl | exact ⟨by kernel_rfl⟩
        exact ⟨⟨i + 1, by omega⟩, GS.to (by simp), by simp; omega⟩
    · obtain rfl : i = 101 := by omega
      simp -dsimp
      refine ACall.of (fwants_no a (Nat.le_trans (ok_le oka) (by omega)) (k := 0) (by omega)) [] 0 ?_
      simp -dsimp [fltT]
      refine ACall.of (fwants_no n (Nat.le_trans (ok_le okN) (by omega)) (k := -1) (by omega)) [] 0 ?_
      simp -dsimp [fltT]
      refine ACall.of awake_c [] 0 ?_
      simp -dsimp
      and_intros
      all_goals try first | rfl | exact ⟨by kernel_rfl⟩
      refine Fin.of ?_
      simp

end Go.Proofs