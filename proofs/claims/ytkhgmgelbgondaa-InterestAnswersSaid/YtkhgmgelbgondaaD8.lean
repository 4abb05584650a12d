/-
  What functions of the program compute, stated as contracts over plain data; the conditions of each stand in its own statement.
-/
import Derived.Test.YtkhgmgelbgondaaD7
set_option linter.unusedSimpArgs false
set_option maxRecDepth 100000
set_option maxHeartbeats 8000000
namespace Go.Proofs
open Go Go.Tr

theorem rbefore_c (x y : Mem) : Contract Try.prog 80 [.agg [.d (.int .i64 x.h), .d (.int .i64 x.g), .d (.int .i64 x.f.m), .d (ints x.f.s), .d (.int .i64 x.u)], .d (.int .i64 y.g), .d (.int .i64 y.h)] [] (.d (.bool (befM x y))) [] [] := by
  refine contract_of Try.func80 rfl (fun E0 => ?_)
  refine awp.sound (g := .mk) (ow := []) (kp := (fun k => k == 0 || k == 1 || k == 2 || k == 3 || k == 6)) ?_
  rw [Try.ntmps80]
  by_cases h1 : x.g < y.g
  · simp -dsimp [eq_true h1]
    and_intros
    all_goals try first | rfl | omega | exact ⟨by kernel_rfl⟩
    refine Fin.of ?_
    simp [befM, h1]
  · by_cases h2 : x.g = y.g
    · by_cases h3 : x.h < y.h
      · simp -dsimp [h1, eq_true h2, eq_true h3]
        and_intros
        all_goals try first | rfl | omega | exact ⟨by kernel_rfl⟩
        refine Fin.of ?_
        simp [befM, h2, h3]
      · simp -dsimp [h1, eq_true h2, h3]
        and_intros
        all_goals try first | rfl | omega | exact ⟨by kernel_rfl⟩
        refine Fin.of ?_
        simp [befM, h2, h3]
    · simp -dsimp [h1, h2]
      and_intros
      all_goals try first | rfl | omega | exact ⟨by kernel_rfl⟩
      refine Fin.of ?_
      simp [befM, h1, h2]
theorem rvalidM_cL (m : Mbs) (hl : m.l.length ≤ 1000000) (hf : ∀ x ∈ m.l, x.f.s.length ≤ 9223372036854775807) : Contract Try.prog 48 [mbsT m] [] (.d (.int .i64 (vldM m))) [] [] := by
  refine contract_of Try.func48 rfl (fun E0 => ?_)
  refine awp.sound (g := .mk) (ow := []) (kp := (fun k => k == 0 || k == 1 || k == 2 || k == 4 || k == 6 || k == 7 || k == 9 || k == 10 || k == 18 || k == 22 || k == 24 || k == 25 || k == 26 || k == 27 || k == 62 || k == 65 || k == 66 || k == 67 || k == 68 || k == 75 || k == 79 || k == 80 || k == 81 || k == 82 || k == 88 || k == 94 || k == 116)) ?_
  rw [Try.ntmps48]
  by_cases n1 : m.now < 0
  · simp -dsimp [mbsT, eq_true n1]
    and_intros
    all_goals try first | rfl | omega | exact ⟨by kernel_rfl⟩
    refine Fin.of ?_
    have : ¬ (0 ≤ m.now ∧ m.now ≤ 1000000) := by omega
    simp [vldM, this]
  by_cases n2 : 1000000 < m.now
  · simp -dsimp [mbsT, n1, eq_true n2]
    and_intros
    all_goals try first | rfl | omega | exact ⟨by kernel_rfl⟩
    refine Fin.of ?_
    have : ¬ (0 ≤ m.now ∧ m.now ≤ 1000000) := by omega
    simp [vldM, this]
  have h1 : 0 ≤ m.now ∧ m.now ≤ 1000000 := by omega
  by_cases h2 : 64 < m.l.length
  · have h2z : (64 : Int) < m.l.length := by omega
    simp -dsimp [mbsT, mems, n1, n2, h2z]
    and_intros
    all_goals try first | rfl | omega | exact ⟨by kernel_rfl⟩
    refine Fin.of ?_
    simp [vldM, h1, h2]
  · have h2z : ¬ (64 : Int) < m.l.length := by omega
    simp -dsimp [mbsT, mems, n1, n2, h2z]
    refine ALoop.of [] (fun k => k == 0 || k == 1 || k == 2 || k == 4 || k == 6 || k == 7 || k == 9 || k == 10 || k == 18 || k == 22 || k == 24 || k == 25 || k == 26 || k == 27 || k == 62 || k == 65 || k == 66 || k == 67 || k == 68 || k == 75 || k == 79 || k == 80 || k == 81 || k == 82 || k == 88 || k == 94 || k == 116) (ι := { i : Nat // i ≤ m.l.length ∧ ∀ a, a < i → ∀ y, m.l[a]? = some y → rgM m.now y = true })
      (fun z => [(Pl.s 0, It.v (TV.agg [TV.d (D.int IntKind.i64 m.now), TV.d (D.sl (List.map memC m.l))])), (Pl.o 1, It.box [TV.d (D.int IntKind.i64 m.now), TV.d (D.sl (List.map memC m.l))]), (Pl.s 1, It.v (TV.ptr (Pl.o 1) 0)), (Pl.s 2, It.v (TV.d (D.int IntKind.i64 0))), (Pl.s 18, It.v (TV.d (D.bool false))), (Pl.s 22, It.v (TV.d (D.bool false))),
        (Pl.s 24, It.v (TV.d (D.sl (List.map memC m.l)))), (Pl.s 25, It.v (TV.d (D.int IntKind.i64 m.l.length))), (Pl.s 26, It.v (TV.d (D.int IntKind.i64 z.1)))])
      (fun z => m.l.length - z.1) ⟨0, by omega, fun a h => by omega⟩ ?_ ?_
    · exact GS.to (by simp)
    · rintro ⟨i, i1, i2⟩
      by_cases hi : i < m.l.length
      · have hiz : (i : Int) < m.l.length := by omega
        have hg : m.l[i]? = some m.l[i] := List.getElem?_eq_getElem hi
        have hm : m.l[i] ∈ m.l := List.getElem_mem hi
        generalize m.l[i] = y at hg hm
        have nx : rgM m.now y = true → ∀ a, a < i + 1 → ∀ y, m.l[a]? = some y → rgM m.now y = true := fun hb a ha z hz => by
          by_cases e : a = i
          · subst e; rw [hg] at hz; simp only [Option.some.injEq] at hz; subst hz; exact hb
          · exact i2 a (by omega) z hz
        have bad : rgM m.now y = false → vldM m = 2 := fun hb => by
          have : ∃ x ∈ m.l, rgM m.now x = false := ⟨y, hm, hb⟩
          simp [vldM, h1, h2, this]
        have w1 := wrap_i64 (n := m.now + 1000) (by omega) (by omega)
        by_cases c0 : y.h < 1
        · simp -dsimp [hg, memC, hiz, w1, eq_true c0]
          and_intros
          all_goals try first | rfl | omega | exact ⟨by kernel_rfl⟩
          refine Fin.of ?_
          simp [bad (by simp only [rgM, decide_eq_false_iff_not]; omega)]
        by_cases c1 : 99 < y.h
        · simp -dsimp [hg, memC, hiz, w1, c0, eq_true c1]
          and_intros
          all_goals try first | rfl | omega | exact ⟨by kernel_rfl⟩
          refine Fin.of ?_
          simp [bad (by simp only [rgM, decide_eq_false_iff_not]; omega)]
        by_cases c2 : y.g < 1
        · simp -dsimp [hg, memC, hiz, w1, c0, c1, eq_true c2]
          and_intros
          all_goals try first | rfl | omega | exact ⟨by kernel_rfl⟩
          refine Fin.of ?_
          simp [bad (by simp only [rgM, decide_eq_false_iff_not]; omega)]
        by_cases c3 : 99 < y.g
        · simp -dsimp [hg, memC, hiz, w1, c0, c1, c2, eq_true c3]
          and_intros
          all_goals try first | rfl | omega | exact ⟨by kernel_rfl⟩
          refine Fin.of ?_
          simp [bad (by simp only [rgM, decide_eq_false_iff_not]; omega)]
        by_cases c4 : y.u < m.now
        · simp -dsimp [hg, memC, hiz, w1, c0, c1, c2, c3, eq_true c4]
          and_intros
          all_goals try first | rfl | omega | exact ⟨by kernel_rfl⟩
          refine Fin.of ?_
          simp [bad (by simp only [rgM, decide_eq_false_iff_not]; omega)]
        by_cases c5 : m.now + 1000 < y.u
        · simp -dsimp [hg, memC, hiz, w1, c0, c1, c2, c3, c4, eq_true c5]
          and_intros
          all_goals try first | rfl | omega | exact ⟨by kernel_rfl⟩
          refine Fin.of ?_
          simp [bad (by simp only [rgM, decide_eq_false_iff_not]; omega)]
        simp -dsimp [hg, memC, hiz, w1, c0, c1, c2, c3, c4, c5, wrap_i64 (n := (i : Int) + 1) (by omega) (by omega)]
        and_intros
        all_goals try first | rfl | omega | exact ⟨by kernel_rfl⟩
        exact ⟨⟨i + 1, by omega, nx (by simp only [rgM, decide_eq_true_eq]; omega)⟩, GS.to (by simp), by simp; omega⟩
      · have hiz : ¬ (i : Int) < m.l.length := by omega
        have all : ∀ y ∈ m.l, rgM m.now y = true := fun y hy => by
          obtain ⟨a, ha⟩ := List.getElem?_of_mem hy
          exact i2 a (by have := (List.getElem?_eq_some_iff.1 ha).1; omega) y ha
        have a2 : ¬ ∃ x ∈ m.l, rgM m.now x = false := fun ⟨x, hx, hb⟩ => by
          have := all x hx
          rw [this] at hb; simp at hb
        simp -dsimp [hiz]
        refine ALoop.of [] (fun k => k == 0 || k == 1 || k == 2 || k == 4 || k == 6 || k == 7 || k == 9 || k == 10 || k == 18 || k == 22 || k == 24 || k == 25 || k == 26 || k == 27 || k == 62 || k == 65 || k == 66 || k == 67 || k == 68 || k == 75 || k == 79 || k == 80 || k == 81 || k == 82 || k == 88 || k == 94 || k == 116) (ι := { i : Nat // i ≤ m.l.length ∧ ∀ a, a < i → ∀ y, m.l[a]? = some y → vld y.f = 0 })
          (fun z => [(Pl.s 0, It.v (TV.agg [TV.d (D.int IntKind.i64 m.now), TV.d (D.sl (List.map memC m.l))])), (Pl.o 1, It.box [TV.d (D.int IntKind.i64 m.now), TV.d (D.sl (List.map memC m.l))]), (Pl.s 1, It.v (TV.ptr (Pl.o 1) 0)), (Pl.s 2, It.v (TV.d (D.int IntKind.i64 0))),
            (Pl.s 65, It.v (TV.d (D.sl (List.map memC m.l)))), (Pl.s 66, It.v (TV.d (D.int IntKind.i64 m.l.length))), (Pl.s 67, It.v (TV.d (D.int IntKind.i64 z.1)))])
          (fun z => m.l.length - z.1) ⟨0, by omega, fun a h => by omega⟩ ?_ ?_
        · exact GS.to (by simp)
        · rintro ⟨i, i1, i2⟩
          by_cases hi : i < m.l.length
          · have hiz : (i : Int) < m.l.length := by omega
            have hg : m.l[i]? = some m.l[i] := List.getElem?_eq_getElem hi
            have hm : m.l[i] ∈ m.l := List.getElem_mem hi
            generalize m.l[i] = y at hg hm
            have nx : vld y.f = 0 → ∀ a, a < i + 1 → ∀ y, m.l[a]? = some y → vld y.f = 0 := fun hb a ha z hz => by
              by_cases e : a = i
              · subst e; rw [hg] at hz; simp only [Option.some.injEq] at hz; subst hz; exact hb
              · exact i2 a (by omega) z hz
            have hf0 := hf y hm
            simp -dsimp [hg, memC, hiz]
            have hv := rvalidate_cL y.f hf0
            simp only [fltT] at hv
            refine ACall.of hv [] 0 ?_
            by_cases b1 : vld y.f = 0
            · simp -dsimp [b1, wrap_i64 (n := (i : Int) + 1) (by omega) (by omega)]
              and_intros
              all_goals try first | rfl | omega | exact ⟨by kernel_rfl⟩
              exact ⟨⟨i + 1, by omega, nx b1⟩, GS.to (by simp), by simp; omega⟩
            · simp -dsimp [b1]
              and_intros
              all_goals try first | rfl | omega | exact ⟨by kernel_rfl⟩
              refine Fin.of ?_
              have hfe : ferr (m.l.map (·.f)) = vld y.f := ferr_at (i := i) (by simp [hg]) (fun a ha g hg' => by
                rw [List.getElem?_map] at hg'
                cases hz : m.l[a]? with
                | none => rw [hz] at hg'; simp at hg'
                | some z => rw [hz] at hg'; simp only [Option.map_some, Option.some.injEq] at hg'; subst hg'; exact i2 a ha z hz) b1
              simp [vldM, h1, h2, a2, hfe, b1]
          · have hiz : ¬ (i : Int) < m.l.length := by omega
            have all : ∀ y ∈ m.l, vld y.f = 0 := fun y hy => by
              obtain ⟨a, ha⟩ := List.getElem?_of_mem hy
              exact i2 a (by have := (List.getElem?_eq_some_iff.1 ha).1; omega) y ha
            have a3 : ferr (m.l.map (·.f)) = 0 := ferr_no fun a g hg' => by
              rw [List.getElem?_map] at hg'
              cases hz : m.l[a]? with
              | none => rw [hz] at hg'; simp at hg'
              | some z =>
                rw [hz] at hg'; simp only [Option.map_some, Option.some.injEq] at hg'; subst hg'
                exact all z (List.mem_of_getElem? hz)
            simp -dsimp [hiz]
            refine ALoop.of [] (fun k => k == 0 || k == 1 || k == 2 || k == 4 || k == 6 || k == 7 || k == 9 || k == 10 || k == 18 || k == 22 || k == 24 || k == 25 || k == 26 || k == 27 || k == 62 || k == 65 || k == 66 || k == 67 || k == 68 || k == 75 || k == 79 || k == 80 || k == 81 || k == 82 || k == 88 || k == 94 || k == 116) (ι := { i : Nat // i ≤ m.l.length ∧ ∀ a, a < i → ∀ y, m.l[a]? = some y → y.f.non = false })
              (fun z => [(Pl.s 0, It.v (TV.agg [TV.d (D.int IntKind.i64 m.now), TV.d (D.sl (List.map memC m.l))])), (Pl.o 1, It.box [TV.d (D.int IntKind.i64 m.now), TV.d (D.sl (List.map memC m.l))]), (Pl.s 1, It.v (TV.ptr (Pl.o 1) 0)), (Pl.s 2, It.v (TV.d (D.int IntKind.i64 0))),
                (Pl.s 79, It.v (TV.d (D.sl (List.map memC m.l)))), (Pl.s 80, It.v (TV.d (D.int IntKind.i64 m.l.length))), (Pl.s 81, It.v (TV.d (D.int IntKind.i64 z.1)))])
              (fun z => m.l.length - z.1) ⟨0, by omega, fun a h => by omega⟩ ?_ ?_
            · exact GS.to (by simp)
            · rintro ⟨i, i1, i2⟩
              by_cases hi : i < m.l.length
              · have hiz : (i : Int) < m.l.length := by omega
                have hg : m.l[i]? = some m.l[i] := List.getElem?_eq_getElem hi
                have hm : m.l[i] ∈ m.l := List.getElem_mem hi
                generalize m.l[i] = y at hg hm
                have nx : y.f.non = false → ∀ a, a < i + 1 → ∀ y, m.l[a]? = some y → y.f.non = false := fun hb a ha z hz => by
                  by_cases e : a = i
                  · subst e; rw [hg] at hz; simp only [Option.some.injEq] at hz; subst hz; exact hb
                  · exact i2 a (by omega) z hz
                simp -dsimp [hg, memC, hiz]
                have hn := nothing_c
                have hs := rsame_c y.f nF (by have := ok_len (vld_zero.1 (all _ hm)); omega)
                simp only [fltT, nF] at hn hs
                refine ACall.of hn [] 0 ?_
                simp -dsimp
                refine ACall.of hs [] 0 ?_
                by_cases b1 : y.f = nF
                · have b1' : y.f.m = 1 ∧ y.f.s = [] := by rw [b1]; exact ⟨rfl, rfl⟩
                  simp -dsimp [b1'.1, b1'.2]
                  and_intros
                  all_goals try first | rfl | omega | exact ⟨by kernel_rfl⟩
                  refine Fin.of ?_
                  have : ∃ x ∈ m.l, x.f.non = true := ⟨y, hm, Flt.non_iff.2 b1⟩
                  simp [vldM, h1, h2, a2, a3, this]
                · have hnn : y.f.non = false := by
                    cases hh : y.f.non with
                    | false => rfl
                    | true => exact absurd (Flt.non_iff.1 hh) b1
                  have b2 : ¬ y.f.m = 1 ∨ ¬ y.f.s = [] := by
                    by_cases e : y.f.m = 1
                    · refine .inr (fun e2 => b1 ?_)
                      obtain ⟨yh, yg, ⟨ym, ys⟩, yu⟩ := y
                      simp only at e e2
                      rw [e, e2]; rfl
                    · exact .inl e
                  rcases b2 with b2 | b2
                  · simp -dsimp [b2, wrap_i64 (n := (i : Int) + 1) (by omega) (by omega)]
                    and_intros
                    all_goals try first | rfl | omega | exact ⟨by kernel_rfl⟩
                    exact ⟨⟨i + 1, by omega, nx hnn⟩, GS.to (by simp), by simp; omega⟩
                  · simp -dsimp [b2, wrap_i64 (n := (i : Int) + 1) (by omega) (by omega)]
                    and_intros
                    all_goals try first | rfl | omega | exact ⟨by kernel_rfl⟩
                    exact ⟨⟨i + 1, by omega, nx hnn⟩, GS.to (by simp), by simp; omega⟩
              · have hiz : ¬ (i : Int) < m.l.length := by omega
                have all : ∀ y ∈ m.l, y.f.non = false := fun y hy => by
                  obtain ⟨a, ha⟩ := List.getElem?_of_mem hy
                  exact i2 a (by have := (List.getElem?_eq_some_iff.1 ha).1; omega) y ha
                have a4 : ¬ ∃ x ∈ m.l, x.f.non = true := fun ⟨x, hx, hb⟩ => by
                  have := all x hx
                  rw [this] at hb; simp at hb
                simp -dsimp [hiz]
                refine ALoop.of [] (fun k => k == 0 || k == 1 || k == 2 || k == 4 || k == 6 || k == 7 || k == 9 || k == 10 || k == 18 || k == 22 || k == 24 || k == 25 || k == 26 || k == 27 || k == 62 || k == 65 || k == 66 || k == 67 || k == 68 || k == 75 || k == 79 || k == 80 || k == 81 || k == 82 || k == 88 || k == 94 || k == 116) (ι := { i : Nat // i ≤ m.l.length ∧ ∀ a, a < i → ∀ x y, m.l[a]? = some x → m.l[a + 1]? = some y → befM x y = true })
                  (fun z => [(Pl.s 0, It.v (TV.agg [TV.d (D.int IntKind.i64 m.now), TV.d (D.sl (List.map memC m.l))])), (Pl.o 1, It.box [TV.d (D.int IntKind.i64 m.now), TV.d (D.sl (List.map memC m.l))]), (Pl.s 1, It.v (TV.ptr (Pl.o 1) 0)), (Pl.s 2, It.v (TV.d (D.int IntKind.i64 0))), (Pl.s 10, It.v (TV.d (D.int IntKind.i64 ((z.1 : Int) + 1))))])
                  (fun z => m.l.length - z.1) ⟨0, by omega, fun a h => by omega⟩ ?_ ?_
                · exact GS.to (by simp)
                · rintro ⟨j, j1, j2⟩
                  by_cases hj : j + 1 < m.l.length
                  · have hjz : (j : Int) + 1 < m.l.length := by omega
                    have hg0 : m.l[j]? = some m.l[j] := List.getElem?_eq_getElem (by omega)
                    have hg1 : m.l[j + 1]? = some m.l[j + 1] := List.getElem?_eq_getElem hj
                    generalize m.l[j] = x at hg0
                    generalize m.l[j + 1] = y at hg1
                    simp -dsimp [hg0, hg1, memC, hjz, toNat_succ, wrap_i64 (n := (j : Int)) (by omega) (by omega)]
                    and_intros
                    all_goals try omega
                    refine ACall.of (rbefore_c x y) [] 0 ?_
                    rcases (Bool.eq_false_or_eq_true (befM x y)).symm with hb | hb
                    · simp -dsimp [hb]
                      and_intros
                      all_goals try first | rfl | omega | exact ⟨by kernel_rfl⟩
                      refine Fin.of ?_
                      have hn : ¬ AscM m.l := fun h => by have := asc2.2 h j x y hg0 hg1; rw [hb] at this; simp at this
                      simp [vldM, h1, h2, a2, a3, a4, hn]
                    · simp -dsimp [hb, wrap_i64 (n := (j : Int) + 1 + 1) (by omega) (by omega)]
                      and_intros
                      all_goals try first | rfl | omega | exact ⟨by kernel_rfl⟩
                      exact ⟨⟨j + 1, by omega, fun a ha u v hu hv => by
                        by_cases e : a = j
                        · subst e; rw [hg0] at hu; rw [hg1] at hv; simp only [Option.some.injEq] at hu hv; subst hu; subst hv; exact hb
                        · exact j2 a (by omega) u v hu hv⟩, GS.to (by simp), by simp; omega⟩
                  · have hjz : ¬ (j : Int) + 1 < m.l.length := by omega
                    simp -dsimp [hjz]
                    and_intros
                    all_goals try first | rfl | omega | exact ⟨by kernel_rfl⟩
                    refine Fin.of ?_
                    have hy : AscM m.l := asc2.1 fun a u v hu hv => j2 a (by have := (List.getElem?_eq_some_iff.1 hv).1; omega) u v hu hv
                    simp [vldM, h1, h2, a2, a3, a4, hy]
theorem rvalidM_c (m : Mbs) (hl : m.l.length ≤ 1000000) (hf : ∀ x ∈ m.l, x.f.s.length ≤ 1000000) : Contract Try.prog 48 [mbsT m] [] (.d (.int .i64 (vldM m))) [] [] := rvalidM_cL m hl (fun x hx => Nat.le_trans (hf x hx) (by decide))
end Go.Proofs
