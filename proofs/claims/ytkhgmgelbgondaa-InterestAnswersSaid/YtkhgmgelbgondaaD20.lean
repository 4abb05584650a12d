/-
  What functions of the program compute, stated as contracts over plain data; the conditions of each stand in its own statement.
-/
import Derived.Test.YtkhgmgelbgondaaD18
set_option linter.unusedSimpArgs false
set_option maxRecDepth 100000
set_option maxHeartbeats 8000000
namespace Go.Proofs
open Go Go.Tr

theorem rcheck24_cL (l : List Wnt) (ch : Bool) (hl : l.length ≤ 1000000) (hf : ∀ x ∈ l, x.f.s.length ≤ 9223372036854775807) : Contract Try.prog 64 [.d (wntD l), .d (.bool ch)] [] (.d (.int .i64 (vldW l ch))) [] [] := by
  refine contract_of Try.func64 rfl (fun E0 => ?_)
  refine awp.sound (g := .mk) (ow := []) (kp := (fun k => k == 0 || k == 1 || k == 4 || k == 6 || k == 8 || k == 9 || k == 11 || k == 12 || k == 15 || k == 16 || k == 17 || k == 18 || k == 19 || k == 29 || k == 31 || k == 32 || k == 33 || k == 34 || k == 41 || k == 44 || k == 45 || k == 46 || k == 47 || k == 57 || k == 62 || k == 76)) ?_
  rw [Try.ntmps64]
  by_cases h1 : 32 < l.length
  · have h1z : (32 : Int) < l.length := by omega
    simp -dsimp [wntD, h1z]
    and_intros
    all_goals try first | rfl | omega | exact ⟨by kernel_rfl⟩
    refine Fin.of ?_
    simp [vldW, h1]
  · have h1z : ¬ (32 : Int) < l.length := by omega
    simp -dsimp [wntD, h1z]
    refine ALoop.of [] (fun k => k == 0 || k == 1 || k == 4 || k == 6 || k == 8 || k == 9 || k == 11 || k == 12 || k == 15 || k == 16 || k == 17 || k == 18 || k == 19 || k == 29 || k == 31 || k == 32 || k == 33 || k == 34 || k == 41 || k == 44 || k == 45 || k == 46 || k == 47 || k == 57 || k == 62 || k == 76) (ι := { i : Nat // i ≤ l.length ∧ ∀ a, a < i → ∀ y, l[a]? = some y → ¬ (y.g < 1 ∨ 99 < y.g) })
      (fun z => [(Pl.s 0, It.v (TV.d (D.sl (List.map wntC l)))), (Pl.s 1, It.v (TV.d (D.bool ch))), (Pl.s 4, It.v (TV.d (D.int IntKind.i64 0))), (Pl.s 15, It.v (TV.d (D.bool false))),
        (Pl.s 16, It.v (TV.d (D.sl (List.map wntC l)))), (Pl.s 17, It.v (TV.d (D.int IntKind.i64 l.length))), (Pl.s 18, It.v (TV.d (D.int IntKind.i64 z.1)))])
      (fun z => l.length - z.1) ⟨0, by omega, fun a h => by omega⟩ ?_ ?_
    · exact GS.to (by simp)
    · rintro ⟨i, i1, i2⟩
      by_cases hi : i < l.length
      · have hiz : (i : Int) < l.length := by omega
        have hg : l[i]? = some l[i] := List.getElem?_eq_getElem hi
        have hm : l[i] ∈ l := List.getElem_mem hi
        generalize l[i] = y at hg hm
        have nx : ¬ (y.g < 1 ∨ 99 < y.g) → ∀ a, a < i + 1 → ∀ y, l[a]? = some y → ¬ (y.g < 1 ∨ 99 < y.g) := fun hb a ha z hz => by
          by_cases e : a = i
          · subst e; rw [hg] at hz; simp only [Option.some.injEq] at hz; subst hz; exact hb
          · exact i2 a (by omega) z hz
        by_cases b1 : y.g < 1
        · simp -dsimp [hg, wntC, hiz, eq_true b1]
          and_intros
          all_goals try first | rfl | omega | exact ⟨by kernel_rfl⟩
          refine Fin.of ?_
          have : ∃ x ∈ l, x.g < 1 ∨ 99 < x.g := ⟨y, hm, .inl b1⟩
          simp [vldW, h1, this]
        · by_cases b2 : 99 < y.g
          · simp -dsimp [hg, wntC, hiz, b1, eq_true b2]
            and_intros
            all_goals try first | rfl | omega | exact ⟨by kernel_rfl⟩
            refine Fin.of ?_
            have : ∃ x ∈ l, x.g < 1 ∨ 99 < x.g := ⟨y, hm, .inr b2⟩
            simp [vldW, h1, this]
          · simp -dsimp [hg, wntC, hiz, b1, b2, wrap_i64 (n := (i : Int) + 1) (by omega) (by omega)]
            and_intros
            all_goals try first | rfl | omega | exact ⟨by kernel_rfl⟩
            exact ⟨⟨i + 1, by omega, nx (by omega)⟩, GS.to (by simp), by simp; omega⟩
      · have hiz : ¬ (i : Int) < l.length := by omega
        have all : ∀ y ∈ l, ¬ (y.g < 1 ∨ 99 < y.g) := fun y hy => by
          obtain ⟨a, ha⟩ := List.getElem?_of_mem hy
          exact i2 a (by have := (List.getElem?_eq_some_iff.1 ha).1; omega) y ha
        have a2 : ¬ ∃ x ∈ l, x.g < 1 ∨ 99 < x.g := fun ⟨x, hx, hb⟩ => all x hx hb
        simp -dsimp [hiz]
        refine ALoop.of [] (fun k => k == 0 || k == 1 || k == 4 || k == 6 || k == 8 || k == 9 || k == 11 || k == 12 || k == 15 || k == 16 || k == 17 || k == 18 || k == 19 || k == 29 || k == 31 || k == 32 || k == 33 || k == 34 || k == 41 || k == 44 || k == 45 || k == 46 || k == 47 || k == 57 || k == 62 || k == 76) (ι := { i : Nat // i ≤ l.length ∧ ∀ a, a < i → ∀ y, l[a]? = some y → vld y.f = 0 })
          (fun z => [(Pl.s 0, It.v (TV.d (D.sl (List.map wntC l)))), (Pl.s 1, It.v (TV.d (D.bool ch))), (Pl.s 4, It.v (TV.d (D.int IntKind.i64 0))),
            (Pl.s 31, It.v (TV.d (D.sl (List.map wntC l)))), (Pl.s 32, It.v (TV.d (D.int IntKind.i64 l.length))), (Pl.s 33, It.v (TV.d (D.int IntKind.i64 z.1)))])
          (fun z => l.length - z.1) ⟨0, by omega, fun a h => by omega⟩ ?_ ?_
        · exact GS.to (by simp)
        · rintro ⟨i, i1, i2⟩
          by_cases hi : i < l.length
          · have hiz : (i : Int) < l.length := by omega
            have hg : l[i]? = some l[i] := List.getElem?_eq_getElem hi
            have hm : l[i] ∈ l := List.getElem_mem hi
            generalize l[i] = y at hg hm
            have nx : vld y.f = 0 → ∀ a, a < i + 1 → ∀ y, l[a]? = some y → vld y.f = 0 := fun hb a ha z hz => by
              by_cases e : a = i
              · subst e; rw [hg] at hz; simp only [Option.some.injEq] at hz; subst hz; exact hb
              · exact i2 a (by omega) z hz
            have hf0 := hf y hm
            simp -dsimp [hg, wntC, hiz]
            have hv := rvalidate_cL y.f hf0
            simp only [fltT] at hv
            refine ACall.of hv [] 0 ?_
            by_cases b1 : vld y.f = 0
            · simp -dsimp [b1, wrap_i64 (n := (i : Int) + 1) (by omega) (by omega)]
              and_intros
              all_goals try first | rfl | omega | exact ⟨by kernel_rfl⟩
              exact ⟨⟨i + 1, by omega, nx b1⟩, GS.to (by simp), by simp; omega⟩
            · simp -dsimp [b1]
              and_intros
              all_goals try first | rfl | omega | exact ⟨by kernel_rfl⟩
              refine Fin.of ?_
              have hfe : ferr (l.map (·.f)) = vld y.f := ferr_at (i := i) (by simp [hg]) (fun a ha g hg' => by
                rw [List.getElem?_map] at hg'
                cases hz : l[a]? with
                | none => rw [hz] at hg'; simp at hg'
                | some z => rw [hz] at hg'; simp only [Option.map_some, Option.some.injEq] at hg'; subst hg'; exact i2 a ha z hz) b1
              simp [vldW, h1, a2, hfe, b1]
          · have hiz : ¬ (i : Int) < l.length := by omega
            have all : ∀ y ∈ l, vld y.f = 0 := fun y hy => by
              obtain ⟨a, ha⟩ := List.getElem?_of_mem hy
              exact i2 a (by have := (List.getElem?_eq_some_iff.1 ha).1; omega) y ha
            have a3 : ferr (l.map (·.f)) = 0 := ferr_no fun a g hg' => by
              rw [List.getElem?_map] at hg'
              cases hz : l[a]? with
              | none => rw [hz] at hg'; simp at hg'
              | some z =>
                rw [hz] at hg'; simp only [Option.map_some, Option.some.injEq] at hg'; subst hg'
                exact all z (List.mem_of_getElem? hz)
            simp -dsimp [hiz]
            refine ALoop.of [] (fun k => k == 0 || k == 1 || k == 4 || k == 6 || k == 8 || k == 9 || k == 11 || k == 12 || k == 15 || k == 16 || k == 17 || k == 18 || k == 19 || k == 29 || k == 31 || k == 32 || k == 33 || k == 34 || k == 41 || k == 44 || k == 45 || k == 46 || k == 47 || k == 57 || k == 62 || k == 76) (ι := { i : Nat // i ≤ l.length ∧ ∀ a, a < i → ∀ y, l[a]? = some y → (ch = false → y.f.non = false) })
              (fun z => [(Pl.s 0, It.v (TV.d (D.sl (List.map wntC l)))), (Pl.s 1, It.v (TV.d (D.bool ch))), (Pl.s 4, It.v (TV.d (D.int IntKind.i64 0))),
                (Pl.s 44, It.v (TV.d (D.sl (List.map wntC l)))), (Pl.s 45, It.v (TV.d (D.int IntKind.i64 l.length))), (Pl.s 46, It.v (TV.d (D.int IntKind.i64 z.1)))])
              (fun z => l.length - z.1) ⟨0, by omega, fun a h => by omega⟩ ?_ ?_
            · exact GS.to (by simp)
            · rintro ⟨i, i1, i2⟩
              by_cases hi : i < l.length
              · have hiz : (i : Int) < l.length := by omega
                have hg : l[i]? = some l[i] := List.getElem?_eq_getElem hi
                have hm : l[i] ∈ l := List.getElem_mem hi
                generalize l[i] = y at hg hm
                have nx : (ch = false → y.f.non = false) → ∀ a, a < i + 1 → ∀ y, l[a]? = some y → (ch = false → y.f.non = false) := fun hb a ha z hz => by
                  by_cases e : a = i
                  · subst e; rw [hg] at hz; simp only [Option.some.injEq] at hz; subst hz; exact hb
                  · exact i2 a (by omega) z hz
                cases ch with
                | true =>
                  simp -dsimp [hg, wntC, hiz, wrap_i64 (n := (i : Int) + 1) (by omega) (by omega)]
                  and_intros
                  all_goals try first | rfl | omega | exact ⟨by kernel_rfl⟩
                  exact ⟨⟨i + 1, by omega, nx (by simp)⟩, GS.to (by simp), by simp; omega⟩
                | false =>
                  have hf0 := hf y hm
                  have hN := nothing_c
                  have hS := rsame_cL y.f nF hf0
                  have eS : (decide (y.f.m = nF.m) && decide (y.f.s = nF.s)) = y.f.non := by simp only [nF, Flt.non]; congr 1; exact decide_eq_decide.2 List.length_eq_zero_iff.symm
                  rw [eS] at hS
                  simp only [fltT, nF] at hN hS
                  simp -dsimp [hg, wntC, hiz]
                  refine ACall.of hN [] 0 ?_
                  simp -dsimp
                  refine ACall.of hS [] 0 ?_
                  rcases (Bool.eq_false_or_eq_true y.f.non).symm with b1 | b1
                  · simp -dsimp [b1, wrap_i64 (n := (i : Int) + 1) (by omega) (by omega)]
                    and_intros
                    all_goals try first | rfl | omega | exact ⟨by kernel_rfl⟩
                    exact ⟨⟨i + 1, by omega, nx (fun _ => b1)⟩, GS.to (by simp), by simp; omega⟩
                  · simp -dsimp [b1]
                    and_intros
                    all_goals try first | rfl | omega | exact ⟨by kernel_rfl⟩
                    refine Fin.of ?_
                    have : ∃ x ∈ l, x.f.non = true := ⟨y, hm, b1⟩
                    simp [vldW, h1, a2, a3, this]
              · have hiz : ¬ (i : Int) < l.length := by omega
                have all : ∀ y ∈ l, (ch = false → y.f.non = false) := fun y hy => by
                  obtain ⟨a, ha⟩ := List.getElem?_of_mem hy
                  exact i2 a (by have := (List.getElem?_eq_some_iff.1 ha).1; omega) y ha
                have a4 : ¬ (ch = false ∧ ∃ x ∈ l, x.f.non = true) := fun ⟨hc, x, hx, hb⟩ => by
                  have := all x hx hc
                  rw [this] at hb; simp at hb
                simp -dsimp [hiz]
                refine ALoop.of [] (fun k => k == 0 || k == 1 || k == 4 || k == 6 || k == 8 || k == 9 || k == 11 || k == 12 || k == 15 || k == 16 || k == 17 || k == 18 || k == 19 || k == 29 || k == 31 || k == 32 || k == 33 || k == 34 || k == 41 || k == 44 || k == 45 || k == 46 || k == 47 || k == 57 || k == 62 || k == 76) (ι := { i : Nat // i ≤ l.length ∧ ∀ a, a < i → ∀ x y, l[a]? = some x → l[a + 1]? = some y → x.g < y.g })
                  (fun z => [(Pl.s 0, It.v (TV.d (D.sl (List.map wntC l)))), (Pl.s 1, It.v (TV.d (D.bool ch))), (Pl.s 4, It.v (TV.d (D.int IntKind.i64 0))), (Pl.s 12, It.v (TV.d (D.int IntKind.i64 ((z.1 : Int) + 1))))])
                  (fun z => l.length - z.1) ⟨0, by omega, fun a h => by omega⟩ ?_ ?_
                · exact GS.to (by simp)
                · rintro ⟨j, j1, j2⟩
                  by_cases hj : j + 1 < l.length
                  · have hjz : (j : Int) + 1 < l.length := by omega
                    have hg0 : l[j]? = some l[j] := List.getElem?_eq_getElem (by omega)
                    have hg1 : l[j + 1]? = some l[j + 1] := List.getElem?_eq_getElem hj
                    generalize l[j] = x at hg0
                    generalize l[j + 1] = y at hg1
                    by_cases hb : x.g < y.g
                    · have hc : ¬ y.g ≤ x.g := by omega
                      simp -dsimp [hg0, hg1, wntC, hjz, hc, toNat_succ, wrap_i64 (n := (j : Int)) (by omega) (by omega), wrap_i64 (n := (j : Int) + 1 + 1) (by omega) (by omega)]
                      and_intros
                      all_goals try first | rfl | omega | exact ⟨by kernel_rfl⟩
                      exact ⟨⟨j + 1, by omega, fun a ha u v hu hv => by
                        by_cases e : a = j
                        · subst e; rw [hg0] at hu; rw [hg1] at hv; simp only [Option.some.injEq] at hu hv; subst hu; subst hv; exact hb
                        · exact j2 a (by omega) u v hu hv⟩, GS.to (by simp), by simp; omega⟩
                    · have hc : y.g ≤ x.g := by omega
                      simp -dsimp [hg0, hg1, wntC, hjz, hc, toNat_succ, wrap_i64 (n := (j : Int)) (by omega) (by omega), wrap_i64 (n := (j : Int) + 1 + 1) (by omega) (by omega)]
                      and_intros
                      all_goals try first | rfl | omega | exact ⟨by kernel_rfl⟩
                      refine Fin.of ?_
                      have hn : ¬ AscW l := fun h => hb (asc2W.2 h j x y hg0 hg1)
                      simp [vldW, h1, a2, a3, a4, hn]
                  · have hjz : ¬ (j : Int) + 1 < l.length := by omega
                    simp -dsimp [hjz]
                    and_intros
                    all_goals try first | rfl | omega | exact ⟨by kernel_rfl⟩
                    refine Fin.of ?_
                    have hy : AscW l := asc2W.1 fun a u v hu hv => j2 a (by have := (List.getElem?_eq_some_iff.1 hv).1; omega) u v hu hv
                    simp [vldW, h1, a2, a3, a4, hy]
end Go.Proofs
