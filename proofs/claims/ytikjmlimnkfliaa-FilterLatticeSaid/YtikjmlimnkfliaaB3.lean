/-
  What functions of the program compute, stated as contracts over plain data; the conditions of each stand in its own statement.
-/
import Derived.Test.YtikjmlimnkfliaaB2
set_option linter.unusedSimpArgs false
set_option maxRecDepth 100000
set_option maxHeartbeats 4000000
namespace Go.Proofs
open Go Go.Tr

theorem lattice_law (t : List Int) (ht : ∀ x ∈ t, I64 x) : Contract Try.prog 3 [.d (ints t)] [] (.d (.bool true)) [] [] := by
  refine contract_of Try.func3 rfl (fun E0 => ?_)
  refine awp.sound (g := .mk) (ow := []) (kp := (fun k => k == 0 || k == 2 || k == 3 || k == 4 || k == 5 || k == 6 || k == 7 || k == 8 || k == 9 || k == 10 || k == 11 || k == 12 || k == 13 || k == 37)) ?_
  rw [Try.ntmps3]
  simp -dsimp
  refine ACall.of (new_c t) [] 2000 ?_
  simp -dsimp
  have k0 : TapeOK (t.take 2000, 0) := ⟨by simp; omega, fun x hx => ht x (List.mem_of_mem_take hx)⟩
  generalize (t.take 2000, 0) = T0 at k0 ⊢
  refine ACall.of (filter_c T0 k0) [.o 2009] 0 ?_
  have oka := gFlt_flt T0
  have kk0 : TapeOK (gFlt T0).2 := by simpa using k0
  generalize gFlt T0 = R0 at oka kk0 ⊢
  obtain ⟨a, T1⟩ := R0
  simp only at oka kk0 ⊢
  have k1 := kk0
  simp -dsimp [fltT]
  as_aux_lemma =>
  refine ACall.of (filter_c T1 k1) [.o 2009] 0 ?_
  have okb := gFlt_flt T1
  have kk1 : TapeOK (gFlt T1).2 := by simpa using k1
  generalize gFlt T1 = R1 at okb kk1 ⊢
  obtain ⟨b, T2⟩ := R1
  simp only at okb kk1 ⊢
  have k2 := kk1
  simp -dsimp [fltT]
  as_aux_lemma =>
  refine ACall.of (filter_c T2 k2) [.o 2009] 0 ?_
  have okc := gFlt_flt T2
  have kk2 : TapeOK (gFlt T2).2 := by simpa using k2
  generalize gFlt T2 = R2 at okc kk2 ⊢
  obtain ⟨c, T3⟩ := R2
  simp only at okc kk2 ⊢
  have k3 := kk2
  simp -dsimp [fltT]
  as_aux_lemma =>
  refine ACall.of (complement_ok oka) [] 0 ?_
  simp -dsimp [fltT]
  refine ACall.of (complement_ok okb) [] 0 ?_
  simp -dsimp [fltT]
  as_aux_lemma =>
  have e0 : (combR kOr a b) = (combR kOr b a) := Flt.ext_w (combR_ok (K := kOr) oka okb) (combR_ok (K := kOr) okb oka) fun s _ _ => by
    simp only [combR_wnt, oka, okb, okc, combR_ok]
    simp only [kOr, kAnd, kNot]
    cases wnt a s <;> cases wnt b s <;> cases wnt c s <;> rfl
  have e1 : (combR kOr (combR kOr a b) c) = (combR kOr a (combR kOr b c)) := Flt.ext_w (combR_ok (K := kOr) (combR_ok (K := kOr) oka okb) okc) (combR_ok (K := kOr) oka (combR_ok (K := kOr) okb okc)) fun s _ _ => by
    simp only [combR_wnt, oka, okb, okc, combR_ok]
    simp only [kOr, kAnd, kNot]
    cases wnt a s <;> cases wnt b s <;> cases wnt c s <;> rfl
  have e2 : (combR kOr a a) = a := Flt.ext_w (combR_ok (K := kOr) oka oka) oka fun s _ _ => by
    simp only [combR_wnt, oka, okb, okc, combR_ok]
    simp only [kOr, kAnd, kNot]
    cases wnt a s <;> cases wnt b s <;> cases wnt c s <;> rfl
  have e3 : (combR kAnd a a) = a := Flt.ext_w (combR_ok (K := kAnd) oka oka) oka fun s _ _ => by
    simp only [combR_wnt, oka, okb, okc, combR_ok]
    simp only [kOr, kAnd, kNot]
    cases wnt a s <;> cases wnt b s <;> cases wnt c s <;> rfl
  have e4 : (combR kAnd a (combR kOr a b)) = a := Flt.ext_w (combR_ok (K := kAnd) oka (combR_ok (K := kOr) oka okb)) oka fun s _ _ => by
    simp only [combR_wnt, oka, okb, okc, combR_ok]
    simp only [kOr, kAnd, kNot]
    cases wnt a s <;> cases wnt b s <;> cases wnt c s <;> rfl
  have e5 : (combR kOr a (combR kAnd a b)) = a := Flt.ext_w (combR_ok (K := kOr) oka (combR_ok (K := kAnd) oka okb)) oka fun s _ _ => by
    simp only [combR_wnt, oka, okb, okc, combR_ok]
    simp only [kOr, kAnd, kNot]
    cases wnt a s <;> cases wnt b s <;> cases wnt c s <;> rfl
  have e6 : (combR kAnd a (combR kOr b c)) = (combR kOr (combR kAnd a b) (combR kAnd a c)) := Flt.ext_w (combR_ok (K := kAnd) oka (combR_ok (K := kOr) okb okc)) (combR_ok (K := kOr) (combR_ok (K := kAnd) oka okb) (combR_ok (K := kAnd) oka okc)) fun s _ _ => by
    simp only [combR_wnt, oka, okb, okc, combR_ok]
    simp only [kOr, kAnd, kNot]
    cases wnt a s <;> cases wnt b s <;> cases wnt c s <;> rfl
  have eb : (combR kNot (combR kAnd (combR kNot a a) (combR kNot b b)) (combR kAnd (combR kNot a a) (combR kNot b b))) = (combR kOr a b) := Flt.ext_w (combR_ok (K := kNot) (combR_ok (K := kAnd) (combR_ok (K := kNot) oka oka) (combR_ok (K := kNot) okb okb)) (combR_ok (K := kAnd) (combR_ok (K := kNot) oka oka) (combR_ok (K := kNot) okb okb))) (combR_ok (K := kOr) oka okb) fun s _ _ => by
    rw [combR_wnt (combR_ok (K := kAnd) (combR_ok (K := kNot) oka oka) (combR_ok (K := kNot) okb okb)) (combR_ok (K := kAnd) (combR_ok (K := kNot) oka oka) (combR_ok (K := kNot) okb okb)), combR_wnt (combR_ok (K := kNot) oka oka) (combR_ok (K := kNot) okb okb), combR_wnt oka oka, combR_wnt okb okb, combR_wnt oka okb]
    simp only [kOr, kAnd, kNot]
    cases wnt a s <;> cases wnt b s <;> rfl
  refine ACall.of (lunion_c oka okb) [] 0 ?_
  simp -dsimp [fltT]
  as_aux_lemma =>
  refine ACall.of (lunion_c okb oka) [] 0 ?_
  simp -dsimp [fltT]
  as_aux_lemma =>
  refine ACall.of (same_eq e0 (combR_ok (K := kOr) oka okb)) [] 0 ?_
  simp -dsimp [fltT]
  as_aux_lemma =>
  refine ACall.of (lunion_c oka okb) [] 0 ?_
  simp -dsimp [fltT]
  as_aux_lemma =>
  refine ACall.of (lunion_c (combR_ok (K := kOr) oka okb) okc) [] 0 ?_
  simp -dsimp [fltT]
  as_aux_lemma =>
  refine ACall.of (lunion_c okb okc) [] 0 ?_
  simp -dsimp [fltT]
  as_aux_lemma =>
  refine ACall.of (lunion_c oka (combR_ok (K := kOr) okb okc)) [] 0 ?_
  simp -dsimp [fltT]
  as_aux_lemma =>
  refine ACall.of (same_eq e1 (combR_ok (K := kOr) (combR_ok (K := kOr) oka okb) okc)) [] 0 ?_
  simp -dsimp [fltT]
  as_aux_lemma =>
  refine ACall.of (lunion_c oka oka) [] 0 ?_
  simp -dsimp [fltT]
  as_aux_lemma =>
  refine ACall.of (same_eq e2 (combR_ok (K := kOr) oka oka)) [] 0 ?_
  simp -dsimp [fltT]
  as_aux_lemma =>
  refine ACall.of (lmeet_c oka oka) [] 0 ?_
  simp -dsimp [fltT]
  as_aux_lemma =>
  refine ACall.of (same_eq e3 (combR_ok (K := kAnd) oka oka)) [] 0 ?_
  simp -dsimp [fltT]
  as_aux_lemma =>
  refine ACall.of (lunion_c oka okb) [] 0 ?_
  simp -dsimp [fltT]
  as_aux_lemma =>
  refine ACall.of (lmeet_c oka (combR_ok (K := kOr) oka okb)) [] 0 ?_
  simp -dsimp [fltT]
  as_aux_lemma =>
  refine ACall.of (same_eq e4 (combR_ok (K := kAnd) oka (combR_ok (K := kOr) oka okb))) [] 0 ?_
  simp -dsimp [fltT]
  as_aux_lemma =>
  refine ACall.of (lmeet_c oka okb) [] 0 ?_
  simp -dsimp [fltT]
  as_aux_lemma =>
  refine ACall.of (lunion_c oka (combR_ok (K := kAnd) oka okb)) [] 0 ?_
  simp -dsimp [fltT]
  as_aux_lemma =>
  refine ACall.of (same_eq e5 (combR_ok (K := kOr) oka (combR_ok (K := kAnd) oka okb))) [] 0 ?_
  simp -dsimp [fltT]
  as_aux_lemma =>
  refine ACall.of (lunion_c okb okc) [] 0 ?_
  simp -dsimp [fltT]
  as_aux_lemma =>
  refine ACall.of (lmeet_c oka (combR_ok (K := kOr) okb okc)) [] 0 ?_
  simp -dsimp [fltT]
  as_aux_lemma =>
  refine ACall.of (lmeet_c oka okb) [] 0 ?_
  simp -dsimp [fltT]
  as_aux_lemma =>
  refine ACall.of (lmeet_c oka okc) [] 0 ?_
  simp -dsimp [fltT]
  as_aux_lemma =>
  refine ACall.of (lunion_c (combR_ok (K := kAnd) oka okb) (combR_ok (K := kAnd) oka okc)) [] 0 ?_
  simp -dsimp [fltT]
  as_aux_lemma =>
  refine ACall.of (same_eq e6 (combR_ok (K := kAnd) oka (combR_ok (K := kOr) okb okc))) [] 0 ?_
  simp -dsimp [fltT]
  as_aux_lemma =>
  try refine ⟨?_, ⟨by kernel_rfl⟩⟩
  refine ACall.of (lmeet_c (combR_ok (K := kNot) oka oka) (combR_ok (K := kNot) okb okb)) [] 0 ?_
  simp -dsimp [fltT]
  refine ACall.of (complement_ok (combR_ok (K := kAnd) (combR_ok (K := kNot) oka oka) (combR_ok (K := kNot) okb okb))) [] 0 ?_
  simp -dsimp [fltT]
  as_aux_lemma =>
  refine ACall.of (lunion_c oka okb) [] 0 ?_
  simp -dsimp [fltT]
  as_aux_lemma =>
  refine ACall.of (same_eq eb (combR_ok (K := kNot) (combR_ok (K := kAnd) (combR_ok (K := kNot) oka oka) (combR_ok (K := kNot) okb okb)) (combR_ok (K := kAnd) (combR_ok (K := kNot) oka oka) (combR_ok (K := kNot) okb okb)))) [] 0 ?_
  simp -dsimp [fltT]
  refine ACall.of awake_c [] 0 ?_
  simp -dsimp
  and_intros
  all_goals try first | rfl | exact ⟨by kernel_rfl⟩
  refine Fin.of ?_
  simp

end Go.Proofs
