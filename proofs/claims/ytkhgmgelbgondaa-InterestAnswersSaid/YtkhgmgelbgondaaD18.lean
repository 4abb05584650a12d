/-
  What functions of the program compute, stated as contracts over plain data; the conditions of each stand in its own statement.
-/
import Derived.Test.YtkhgmgelbgondaaD17
import Derived.Test.YtkhgmgelbgondaaD16
set_option linter.unusedSimpArgs false
set_option maxRecDepth 100000
set_option maxHeartbeats 8000000
namespace Go.Proofs
open Go Go.Tr

theorem wants_c (T : Tp) (hT : TapeOK T) : Contract Try.prog 24 [.ptr (.x 0) 0] [tapeI T] (.d (wntD (gWants T).1)) [tapeI (gWants T).2] [] := by
  refine contract_of Try.func24 rfl (fun E0 => ?_)
  refine awp.sound (g := .mk) (ow := []) (kp := (fun k => k == 0 || k == 2 || k == 3 || k == 4 || k == 5 || k == 7 || k == 25)) ?_
  rw [Try.ntmps24]
  simp -dsimp
  refine ALoop.of [] (fun k => k == 0 || k == 2 || k == 3 || k == 4 || k == 5 || k == 7 || k == 25) (ι := { z : Nat × Tp × List Wnt // z.1 ≤ 6 ∧ TapeOK z.2.1 ∧ z.2.2.length + z.1 ≤ 6 ∧ gWants T = gWantL z.1 z.2.1 (7 - z.1) z.2.2 })
    (fun z => [(Pl.s 0, It.v (TV.ptr (Pl.x 0) 0)), (Pl.x 0, tapeI z.1.2.1), (Pl.s 2, It.v (TV.c (Value.slice none 0 0))), (Pl.s 3, It.v (TV.oref 3 z.1.2.2.length)),
      (Pl.o 3, It.row 53 3 (dd (z.1.2.2.map wntC)) false), (Pl.s 4, It.v (TV.d (D.int IntKind.i64 (7 - z.1.1))))])
    (fun z => z.1.1) ⟨(6, T, []), by simp, hT, by simp, rfl⟩ ?_ ?_
  · exact GS.own' (k := 3) 53 3 (by simp) (by simp) (by simp)
  · rintro ⟨⟨i, T', l⟩, i1, i2, i3, i4⟩
    simp only at i1 i2 i3 i4
    cases i with
    | zero =>
      simp only [gWantL] at i4
      have e : ¬ ((7 : Int) ≤ 6) := by omega
      simp -dsimp [e]
      refine Fin.view 2 ?_
      simp -dsimp
      refine Fin.of ?_
      simp [i4, wntD]
    | succ i =>
      have e : (7 : Int) - ((i : Int) + 1) ≤ 6 := by omega
      simp -dsimp [e]
      refine ACall.of (filter_c T' i2) [.x 0] 0 ?_
      have hf := gFlt_flt T'
      have kf : TapeOK (gFlt T').2 := by simpa using i2
      simp only [gWantL] at i4
      rw [show (((i + 1 : Nat)) : Int) = (i : Int) + 1 by omega] at i4
      generalize gFlt T' = F at hf kf i4 ⊢
      obtain ⟨f, T1⟩ := F
      simp only at hf kf i4 ⊢
      simp -dsimp [fltT]
      refine ACall.of (next_c T1 kf 2 ⟨by omega, by omega⟩) [.x 0] 0 ?_
      have kn : TapeOK (gNext T1 2).2 := by simpa using kf
      generalize gNext T1 2 = K at kn i4 ⊢
      obtain ⟨k, T2⟩ := K
      simp only at kn i4 ⊢
      have hn : (f.non = false) ↔ f.m = 2 ∨ ¬ f.s.length = 0 := by
        have := hf.1
        simp only [Flt.non, Bool.and_eq_false_iff, decide_eq_false_iff_not]
        omega
      have hz : (7 : Int) - ((i : Int) + 1) + 1 = 7 - (i : Nat) := by omega
      rw [hz] at i4
      have w1 := wrap_i64 (n := (7 : Int) - (i : Nat)) (by omega) (by omega)
      have no : ¬ (k = 0 ∧ f.non = false) → gWants T = gWantL i T2 (7 - (i : Nat)) l := fun h => by rw [i4, if_neg h]
      have yes : (k = 0 ∧ f.non = false) → gWants T = gWantL i T2 (7 - (i : Nat)) (l ++ [⟨7 - ((i : Int) + 1), f⟩]) := fun h => by rw [i4, if_pos h]
      by_cases c1 : k = 0
      · by_cases c2 : f.m = 2
        · simp -dsimp [eq_true c1, eq_true c2, hz, w1, e]
          and_intros
          all_goals try first | rfl | omega | exact ⟨by kernel_rfl⟩
          exact ⟨⟨(i, T2, l ++ [⟨7 - ((i : Int) + 1), f⟩]), by simp only; omega, kn, by simp only [List.length_append, List.length_cons, List.length_nil]; omega, yes ⟨c1, hn.2 (.inl c2)⟩⟩, GS.to (by simp [wntC, c2]), by simp⟩
        · by_cases c3 : f.s.length = 0
          · have c3z : ¬ 0 < f.s.length := by omega
            simp -dsimp [eq_true c1, c2, c3z, hz, w1, e, ints]
            and_intros
            all_goals try first | rfl | omega | exact ⟨by kernel_rfl⟩
            exact ⟨⟨(i, T2, l), by simp only; omega, kn, by simp only; omega, no fun h => by have := hn.1 h.2; omega⟩, GS.to (by simp), by simp⟩
          · have c3z : 0 < f.s.length := by omega
            simp -dsimp [eq_true c1, c2, c3z, hz, w1, e, ints]
            and_intros
            all_goals try first | rfl | omega | exact ⟨by kernel_rfl⟩
            exact ⟨⟨(i, T2, l ++ [⟨7 - ((i : Int) + 1), f⟩]), by simp only; omega, kn, by simp only [List.length_append, List.length_cons, List.length_nil]; omega, yes ⟨c1, hn.2 (.inr c3)⟩⟩, GS.to (by simp [wntC, ints]), by simp⟩
      · simp -dsimp [c1, hz, w1, e]
        and_intros
        all_goals try first | rfl | omega | exact ⟨by kernel_rfl⟩
        exact ⟨⟨(i, T2, l), by simp only; omega, kn, by simp only; omega, no fun h => c1 h.1⟩, GS.to (by simp), by simp⟩
theorem iapply_cL (a b : List Wnt) (ha : a.length ≤ 1000000) (hb : b.length ≤ 1000000) (hfa : ∀ x ∈ a, x.f.s.length ≤ 9223372036854775807) (hfb : ∀ x ∈ b, x.f.s.length ≤ 9223372036854775807) :
    Contract Try.prog 25 [.d (wntD a), .d (wntD b)] [] (.tup [.d (wntD (appR a b).1), .d (.int .i64 (appR a b).2)]) [] [] := by
  have hva := ivalidate_cL a ha hfa
  have hvb := icheck_cL b true hb hfb
  have hor := cor_c (vldW a false) (vldW b true)
  simp only [ints, List.map] at hor
  refine contract_of Try.func25 rfl (fun E0 => ?_)
  refine awp.sound (g := .mk) (ow := []) (kp := (fun k => k == 0 || k == 1 || k == 4 || k == 5 || k == 6 || k == 7 || k == 15)) ?_
  rw [Try.ntmps25]
  simp -dsimp
  refine ACall.of hva [] 0 ?_
  simp -dsimp
  refine ACall.of hvb [] 0 ?_
  simp -dsimp
  refine ACall.of hor [] 0 ?_
  by_cases h : corV (vldW a false) (vldW b true) = 0
  · obtain ⟨h1, h2⟩ := corV_zero h
    have la := vldW_len h1
    replace hfa : ∀ x ∈ a, x.f.s.length ≤ 1000000 := fun x hx => by have := ok_len ((vldW_zero h1).2.2.1 x hx); omega
    replace hfb : ∀ x ∈ b, x.f.s.length ≤ 1000000 := fun x hx => by have := ok_len ((vldW_zero h2).2.2.1 x hx); omega
    have lb := vldW_len h2
    have hm := merged_c a b (by omega) 61 (by simp) apA apB apC (by simp [apA]) (fun y => by unfold apB; split <;> simp) (fun x y => by unfold apC; split <;> simp)
      (fun l hl x hx => applyA_c l hl x (hfa x hx))
      (fun l hl y hy => by
        have := applyB_c l hl y (hfb y hy)
        have e : (if y.f.non = true then l else l ++ [y]) = l ++ apB y := by unfold apB; split <;> simp
        rw [e] at this; exact this)
      (fun l hl x hx y hy => by
        have := applyC_c l hl x y (hfb y hy)
        have e : (if y.f.non = true then l else l ++ [y]) = l ++ apC x y := by unfold apC; split <;> simp
        rw [e] at this; exact this)
    have hlim := limited_c (mrg apA apB apC a b)
    simp -dsimp [h]
    try refine ⟨?_, ⟨by kernel_rfl⟩⟩
    refine ACall.of2 hm [.o 7] [] 1000 ?_
    simp -dsimp
    and_intros
    all_goals try first | rfl | omega | exact ⟨by kernel_rfl⟩
    simp only [wntD] at hlim
    refine ACall.of hlim [] 0 ?_
    simp -dsimp
    and_intros
    all_goals try first | rfl | omega | exact ⟨by kernel_rfl⟩
    refine Fin.of ?_
    simp [appR, limW, h1, h2, wntD]
    split <;> simp
  · simp -dsimp [h]
    and_intros
    all_goals try first | rfl | omega | exact ⟨by kernel_rfl⟩
    refine Fin.view 4 ?_
    simp -dsimp
    refine Fin.of ?_
    have h' : (if vldW a false = 0 then vldW b true else vldW a false) ≠ 0 := by
      intro e
      apply h
      unfold corV
      split at e <;> simp_all
    simp [appR, limW, corV, wntD]
    simp [h']
theorem iapply_c (a b : List Wnt) (ha : a.length ≤ 1000000) (hb : b.length ≤ 1000000) (hfa : ∀ x ∈ a, x.f.s.length ≤ 1000000) (hfb : ∀ x ∈ b, x.f.s.length ≤ 1000000) :
    Contract Try.prog 25 [.d (wntD a), .d (wntD b)] [] (.tup [.d (wntD (appR a b).1), .d (.int .i64 (appR a b).2)]) [] [] := iapply_cL a b ha hb (fun x hx => Nat.le_trans (hfa x hx) (by decide)) (fun x hx => Nat.le_trans (hfb x hx) (by decide))
end Go.Proofs
