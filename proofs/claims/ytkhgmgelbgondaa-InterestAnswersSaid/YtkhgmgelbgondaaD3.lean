/-
  What functions of the program compute, stated as contracts over plain data; the conditions of each stand in its own statement.
-/
import Derived.Test.YtkhgmgelbgondaaD2
import Derived.Test.YtkhgmgelbgondaaB2
set_option linter.unusedSimpArgs false
set_option maxRecDepth 100000
set_option maxHeartbeats 8000000
namespace Go.Proofs
open Go Go.Tr

def AscW (l : List Wnt) : Prop := l.Pairwise fun x y => x.g < y.g
instance (l : List Wnt) : Decidable (AscW l) := inferInstanceAs (Decidable (List.Pairwise _ _))
theorem asc2W : ∀ {l : List Wnt}, (∀ a x y, l[a]? = some x → l[a + 1]? = some y → x.g < y.g) ↔ AscW l
  | [] => by simp [AscW]
  | [x] => by simp [AscW]
  | x :: y :: r => by
    constructor
    · intro h
      have ih := (asc2W (l := y :: r)).1 (fun a u v hu hv => h (a + 1) u v (by simpa using hu) (by simpa using hv))
      refine List.pairwise_cons.2 ⟨fun z hz => ?_, ih⟩
      have h0 := h 0 x y rfl rfl
      rcases List.mem_cons.1 hz with rfl | hz
      · exact h0
      · have := (List.pairwise_cons.1 ih).1 z hz
        omega
    · intro h a u v hu hv
      obtain ⟨a1, e1⟩ := List.getElem?_eq_some_iff.1 hu
      obtain ⟨a2, e2⟩ := List.getElem?_eq_some_iff.1 hv
      subst e1; subst e2
      exact List.pairwise_iff_getElem.1 h a (a + 1) a1 a2 (by omega)
/-- the check of wants, or of changes -/
def vldW (l : List Wnt) (ch : Bool) : Int := if 32 < l.length then 3 else if ∃ x ∈ l, x.g < 1 ∨ 99 < x.g then 2 else
  if ferr (l.map (·.f)) ≠ 0 then ferr (l.map (·.f)) else if ch = false ∧ ∃ x ∈ l, x.f.non = true then 1 else if AscW l then 0 else 25
theorem vldW_zero {l : List Wnt} {ch : Bool} (h : vldW l ch = 0) : l.length ≤ 32 ∧ (∀ x ∈ l, 1 ≤ x.g ∧ x.g ≤ 99) ∧ (∀ x ∈ l, x.f.Ok) ∧ (ch = false → ∀ x ∈ l, x.f.non = false) ∧ AscW l := by
  unfold vldW at h
  split at h; · simp at h
  rename_i h1
  split at h; · simp at h
  rename_i h2
  split at h; · rename_i h4; exact absurd h h4
  rename_i h4
  split at h; · simp at h
  rename_i h5
  split at h
  · rename_i h6
    have h4' : ferr (l.map (·.f)) = 0 := Classical.not_not.1 h4
    have : ∀ {l : List Flt}, ferr l = 0 → ∀ f ∈ l, vld f = 0 := by
      intro l
      induction l with
      | nil => simp
      | cons g r ih =>
        intro h f hf
        simp only [ferr] at h
        split at h
        · rename_i hg; exact absurd h hg
        · rename_i hg
          rcases List.mem_cons.1 hf with rfl | hf
          · exact Classical.not_not.1 hg
          · exact ih h f hf
    refine ⟨by omega, fun x hx => ?_, fun x hx => vld_zero.1 (this h4' x.f (List.mem_map.2 ⟨x, hx, rfl⟩)), fun hc x hx => ?_, h6⟩
    · apply Classical.byContradiction
      intro hn
      exact h2 ⟨x, hx, by omega⟩
    · cases hr : x.f.non with
      | false => rfl
      | true => exact absurd ⟨hc, x, hx, hr⟩ h5
  · simp at h
theorem icheck_cL (l : List Wnt) (ch : Bool) (hl : l.length ≤ 1000000) (hf : ∀ x ∈ l, x.f.s.length ≤ 9223372036854775807) : Contract Try.prog 42 [.d (wntD l), .d (.bool ch)] [] (.d (.int .i64 (vldW l ch))) [] [] := by
  refine contract_of Try.func42 rfl (fun E0 => ?_)
  refine awp.sound (g := .mk) (ow := []) (kp := (fun k => k == 0 || k == 1 || k == 4 || k == 6 || k == 8 || k == 9 || k == 11 || k == 12 || k == 15 || k == 16 || k == 17 || k == 18 || k == 19 || k == 29 || k == 31 || k == 32 || k == 33 || k == 34 || k == 41 || k == 44 || k == 45 || k == 46 || k == 47 || k == 56 || k == 61 || k == 75)) ?_
  rw [Try.ntmps42]
  by_cases h1 : 32 < l.length
  · have h1z : (32 : Int) < l.length := by omega
    simp -dsimp [wntD, h1z]
    and_intros
    all_goals try first | rfl | omega | exact ⟨by kernel_rfl⟩
    refine Fin.of ?_
    simp [vldW, h1]
  · have h1z : ¬ (32 : Int) < l.length := by omega
    simp -dsimp [wntD, h1z]
    refine ALoop.of [] (fun k => k == 0 || k == 1 || k == 4 || k == 6 || k == 8 || k == 9 || k == 11 || k == 12 || k == 15 || k == 16 || k == 17 || k == 18 || k == 19 || k == 29 || k == 31 || k == 32 || k == 33 || k == 34 || k == 41 || k == 44 || k == 45 || k == 46 || k == 47 || k == 56 || k == 61 || k == 75) (ι := { i : Nat // i ≤ l.length ∧ ∀ a, a < i → ∀ y, l[a]? = some y → ¬ (y.g < 1 ∨ 99 < y.g) })
      (fun z => [(Pl.s 0, It.v (TV.d (D.sl (List.map wntC l)))), (Pl.s 1, It.v (TV.d (D.bool ch))), (Pl.s 4, It.v (TV.d (D.int IntKind.i64 0))), (Pl.s 15, It.v (TV.d (D.bool false))),
        (Pl.s 16, It.v (TV.d (D.sl (List.map wntC l)))), (Pl.s 17, It.v (TV.d (D.int IntKind.i64 l.length))), (Pl.s 18, It.v (TV.d (D.int IntKind.i64 z.1)))])
      (fun z => l.length - z.1) ⟨0, by omega, fun a h => by omega⟩ ?_ ?_
    · exact GS.to (by simp)
    · rintro ⟨i, i1, i2⟩
      by_cases hi : i < l.length
      · have hiz : (i : Int) < l.length := by omega
        have hg : l[i]? = some l[i] := List.getElem?_eq_getElem hi
        have hm : l[i] ∈ l := List.getElem_mem hi
        generalize l[i] = y at hg hm
        have nx : ¬ (y.g < 1 ∨ 99 < y.g) → ∀ a, a < i + 1 → ∀ y, l[a]? = some y → ¬ (y.g < 1 ∨ 99 < y.g) := fun hb a ha z hz => by
          by_cases e : a = i
          · subst e; rw [hg] at hz; simp only [Option.some.injEq] at hz; subst hz; exact hb
          · exact i2 a (by omega) z hz
        by_cases b1 : y.g < 1
        · simp -dsimp [hg, wntC, hiz, eq_true b1]
          and_intros
          all_goals try first | rfl | omega | exact ⟨by kernel_rfl⟩
          refine Fin.of ?_
          have : ∃ x ∈ l, x.g < 1 ∨ 99 < x.g := ⟨y, hm, .inl b1⟩
          simp [vldW, h1, this]
        · by_cases b2 : 99 < y.g
          · simp -dsimp [hg, wntC, hiz, b1, eq_true b2]
            and_intros
            all_goals try first | rfl | omega | exact ⟨by kernel_rfl⟩
            refine Fin.of ?_
            have : ∃ x ∈ l, x.g < 1 ∨ 99 < x.g := ⟨y, hm, .inr b2⟩
            simp [vldW, h1, this]
          · simp -dsimp [hg, wntC, hiz, b1, b2, wrap_i64 (n := (i : Int) + 1) (by omega) (by omega)]
            and_intros
            all_goals try first | rfl | omega | exact ⟨by kernel_rfl⟩
            exact ⟨⟨i + 1, by omega, nx (by omega)⟩, GS.to (by simp), by simp; omega⟩
      · have hiz : ¬ (i : Int) < l.length := by omega
        have all : ∀ y ∈ l, ¬ (y.g < 1 ∨ 99 < y.g) := fun y hy => by
          obtain ⟨a, ha⟩ := List.getElem?_of_mem hy
          exact i2 a (by have := (List.getElem?_eq_some_iff.1 ha).1; omega) y ha
        have a2 : ¬ ∃ x ∈ l, x.g < 1 ∨ 99 < x.g := fun ⟨x, hx, hb⟩ => all x hx hb
        simp -dsimp [hiz]
        refine ALoop.of [] (fun k => k == 0 || k == 1 || k == 4 || k == 6 || k == 8 || k == 9 || k == 11 || k == 12 || k == 15 || k == 16 || k == 17 || k == 18 || k == 19 || k == 29 || k == 31 || k == 32 || k == 33 || k == 34 || k == 41 || k == 44 || k == 45 || k == 46 || k == 47 || k == 56 || k == 61 || k == 75) (ι := { i : Nat // i ≤ l.length ∧ ∀ a, a < i → ∀ y, l[a]? = some y → vld y.f = 0 })
          (fun z => [(Pl.s 0, It.v (TV.d (D.sl (List.map wntC l)))), (Pl.s 1, It.v (TV.d (D.bool ch))), (Pl.s 4, It.v (TV.d (D.int IntKind.i64 0))),
            (Pl.s 31, It.v (TV.d (D.sl (List.map wntC l)))), (Pl.s 32, It.v (TV.d (D.int IntKind.i64 l.length))), (Pl.s 33, It.v (TV.d (D.int IntKind.i64 z.1)))])
          (fun z => l.length - z.1) ⟨0, by omega, fun a h => by omega⟩ ?_ ?_
        · exact GS.to (by simp)
        · rintro ⟨i, i1, i2⟩
          by_cases hi : i < l.length
          · have hiz : (i : Int) < l.length := by omega
            have hg : l[i]? = some l[i] := List.getElem?_eq_getElem hi
            have hm : l[i] ∈ l := List.getElem_mem hi
            generalize l[i] = y at hg hm
            have nx : vld y.f = 0 → ∀ a, a < i + 1 → ∀ y, l[a]? = some y → vld y.f = 0 := fun hb a ha z hz => by
              by_cases e : a = i
              · subst e; rw [hg] at hz; simp only [Option.some.injEq] at hz; subst hz; exact hb
              · exact i2 a (by omega) z hz
            have hf0 := hf y hm
            simp -dsimp [hg, wntC, hiz]
            have hv := validate_cL y.f hf0
            simp only [fltT] at hv
            refine ACall.of hv [] 0 ?_
            by_cases b1 : vld y.f = 0
            · simp -dsimp [b1, wrap_i64 (n := (i : Int) + 1) (by omega) (by omega)]
              and_intros
              all_goals try first | rfl | omega | exact ⟨by kernel_rfl⟩
              exact ⟨⟨i + 1, by omega, nx b1⟩, GS.to (by simp), by simp; omega⟩
            · simp -dsimp [b1]
              and_intros
              all_goals try first | rfl | omega | exact ⟨by kernel_rfl⟩
              refine Fin.of ?_
              have hfe : ferr (l.map (·.f)) = vld y.f := ferr_at (i := i) (by simp [hg]) (fun a ha g hg' => by
                rw [List.getElem?_map] at hg'
                cases hz : l[a]? with
                | none => rw [hz] at hg'; simp at hg'
                | some z => rw [hz] at hg'; simp only [Option.map_some, Option.some.injEq] at hg'; subst hg'; exact i2 a ha z hz) b1
              simp [vldW, h1, a2, hfe, b1]
          · have hiz : ¬ (i : Int) < l.length := by omega
            have all : ∀ y ∈ l, vld y.f = 0 := fun y hy => by
              obtain ⟨a, ha⟩ := List.getElem?_of_mem hy
              exact i2 a (by have := (List.getElem?_eq_some_iff.1 ha).1; omega) y ha
            have a3 : ferr (l.map (·.f)) = 0 := ferr_no fun a g hg' => by
              rw [List.getElem?_map] at hg'
              cases hz : l[a]? with
              | none => rw [hz] at hg'; simp at hg'
              | some z =>
                rw [hz] at hg'; simp only [Option.map_some, Option.some.injEq] at hg'; subst hg'
                exact all z (List.mem_of_getElem? hz)
            simp -dsimp [hiz]
            refine ALoop.of [] (fun k => k == 0 || k == 1 || k == 4 || k == 6 || k == 8 || k == 9 || k == 11 || k == 12 || k == 15 || k == 16 || k == 17 || k == 18 || k == 19 || k == 29 || k == 31 || k == 32 || k == 33 || k == 34 || k == 41 || k == 44 || k == 45 || k == 46 || k == 47 || k == 56 || k == 61 || k == 75) (ι := { i : Nat // i ≤ l.length ∧ ∀ a, a < i → ∀ y, l[a]? = some y → (ch = false → y.f.non = false) })
              (fun z => [(Pl.s 0, It.v (TV.d (D.sl (List.map wntC l)))), (Pl.s 1, It.v (TV.d (D.bool ch))), (Pl.s 4, It.v (TV.d (D.int IntKind.i64 0))),
                (Pl.s 44, It.v (TV.d (D.sl (List.map wntC l)))), (Pl.s 45, It.v (TV.d (D.int IntKind.i64 l.length))), (Pl.s 46, It.v (TV.d (D.int IntKind.i64 z.1)))])
              (fun z => l.length - z.1) ⟨0, by omega, fun a h => by omega⟩ ?_ ?_
            · exact GS.to (by simp)
            · rintro ⟨i, i1, i2⟩
              by_cases hi : i < l.length
              · have hiz : (i : Int) < l.length := by omega
                have hg : l[i]? = some l[i] := List.getElem?_eq_getElem hi
                have hm : l[i] ∈ l := List.getElem_mem hi
                generalize l[i] = y at hg hm
                have nx : (ch = false → y.f.non = false) → ∀ a, a < i + 1 → ∀ y, l[a]? = some y → (ch = false → y.f.non = false) := fun hb a ha z hz => by
                  by_cases e : a = i
                  · subst e; rw [hg] at hz; simp only [Option.some.injEq] at hz; subst hz; exact hb
                  · exact i2 a (by omega) z hz
                cases ch with
                | true =>
                  simp -dsimp [hg, wntC, hiz, wrap_i64 (n := (i : Int) + 1) (by omega) (by omega)]
                  and_intros
                  all_goals try first | rfl | omega | exact ⟨by kernel_rfl⟩
                  exact ⟨⟨i + 1, by omega, nx (by simp)⟩, GS.to (by simp), by simp; omega⟩
                | false =>
                  simp -dsimp [hg, wntC, hiz]
                  have hv := inothing_c y.f
                  simp only [fltT] at hv
                  refine ACall.of hv [] 0 ?_
                  rcases (Bool.eq_false_or_eq_true y.f.non).symm with b1 | b1
                  · simp -dsimp [b1, wrap_i64 (n := (i : Int) + 1) (by omega) (by omega)]
                    and_intros
                    all_goals try first | rfl | omega | exact ⟨by kernel_rfl⟩
                    exact ⟨⟨i + 1, by omega, nx (fun _ => b1)⟩, GS.to (by simp), by simp; omega⟩
                  · simp -dsimp [b1]
                    and_intros
                    all_goals try first | rfl | omega | exact ⟨by kernel_rfl⟩
                    refine Fin.of ?_
                    have : ∃ x ∈ l, x.f.non = true := ⟨y, hm, b1⟩
                    simp [vldW, h1, a2, a3, this]
              · have hiz : ¬ (i : Int) < l.length := by omega
                have all : ∀ y ∈ l, (ch = false → y.f.non = false) := fun y hy => by
                  obtain ⟨a, ha⟩ := List.getElem?_of_mem hy
                  exact i2 a (by have := (List.getElem?_eq_some_iff.1 ha).1; omega) y ha
                have a4 : ¬ (ch = false ∧ ∃ x ∈ l, x.f.non = true) := fun ⟨hc, x, hx, hb⟩ => by
                  have := all x hx hc
                  rw [this] at hb; simp at hb
                simp -dsimp [hiz]
                refine ALoop.of [] (fun k => k == 0 || k == 1 || k == 4 || k == 6 || k == 8 || k == 9 || k == 11 || k == 12 || k == 15 || k == 16 || k == 17 || k == 18 || k == 19 || k == 29 || k == 31 || k == 32 || k == 33 || k == 34 || k == 41 || k == 44 || k == 45 || k == 46 || k == 47 || k == 56 || k == 61 || k == 75) (ι := { i : Nat // i ≤ l.length ∧ ∀ a, a < i → ∀ x y, l[a]? = some x → l[a + 1]? = some y → x.g < y.g })
                  (fun z => [(Pl.s 0, It.v (TV.d (D.sl (List.map wntC l)))), (Pl.s 1, It.v (TV.d (D.bool ch))), (Pl.s 4, It.v (TV.d (D.int IntKind.i64 0))), (Pl.s 12, It.v (TV.d (D.int IntKind.i64 ((z.1 : Int) + 1))))])
                  (fun z => l.length - z.1) ⟨0, by omega, fun a h => by omega⟩ ?_ ?_
                · exact GS.to (by simp)
                · rintro ⟨j, j1, j2⟩
                  by_cases hj : j + 1 < l.length
                  · have hjz : (j : Int) + 1 < l.length := by omega
                    have hg0 : l[j]? = some l[j] := List.getElem?_eq_getElem (by omega)
                    have hg1 : l[j + 1]? = some l[j + 1] := List.getElem?_eq_getElem hj
                    generalize l[j] = x at hg0
                    generalize l[j + 1] = y at hg1
                    by_cases hb : x.g < y.g
                    · have hc : ¬ y.g ≤ x.g := by omega
                      simp -dsimp [hg0, hg1, wntC, hjz, hc, toNat_succ, wrap_i64 (n := (j : Int)) (by omega) (by omega), wrap_i64 (n := (j : Int) + 1 + 1) (by omega) (by omega)]
                      and_intros
                      all_goals try first | rfl | omega | exact ⟨by kernel_rfl⟩
                      exact ⟨⟨j + 1, by omega, fun a ha u v hu hv => by
                        by_cases e : a = j
                        · subst e; rw [hg0] at hu; rw [hg1] at hv; simp only [Option.some.injEq] at hu hv; subst hu; subst hv; exact hb
                        · exact j2 a (by omega) u v hu hv⟩, GS.to (by simp), by simp; omega⟩
                    · have hc : y.g ≤ x.g := by omega
                      simp -dsimp [hg0, hg1, wntC, hjz, hc, toNat_succ, wrap_i64 (n := (j : Int)) (by omega) (by omega), wrap_i64 (n := (j : Int) + 1 + 1) (by omega) (by omega)]
                      and_intros
                      all_goals try first | rfl | omega | exact ⟨by kernel_rfl⟩
                      refine Fin.of ?_
                      have hn : ¬ AscW l := fun h => hb (asc2W.2 h j x y hg0 hg1)
                      simp [vldW, h1, a2, a3, a4, hn]
                  · have hjz : ¬ (j : Int) + 1 < l.length := by omega
                    simp -dsimp [hjz]
                    and_intros
                    all_goals try first | rfl | omega | exact ⟨by kernel_rfl⟩
                    refine Fin.of ?_
                    have hy : AscW l := asc2W.1 fun a u v hu hv => j2 a (by have := (List.getElem?_eq_some_iff.1 hv).1; omega) u v hu hv
                    simp [vldW, h1, a2, a3, a4, hy]
theorem icheck_c (l : List Wnt) (ch : Bool) (hl : l.length ≤ 1000000) (hf : ∀ x ∈ l, x.f.s.length ≤ 1000000) : Contract Try.prog 42 [.d (wntD l), .d (.bool ch)] [] (.d (.int .i64 (vldW l ch))) [] [] := icheck_cL l ch hl (fun x hx => Nat.le_trans (hf x hx) (by decide))
theorem mgroups_cL (m : Mbs) (hl : m.l.length ≤ 1000000) (hf : ∀ x ∈ m.l, x.f.s.length ≤ 9223372036854775807) : Contract Try.prog 40 [mbsT m] [] (.d (ints (if vldM m = 0 then Lib.compact (m.l.map (·.g)) else []))) [] [] := by
  refine contract_of Try.func40 rfl (fun E0 => ?_)
  refine awp.sound (g := .mk) (ow := [1000075]) (kp := (fun k => k == 0 || k == 1 || k == 2 || k == 3 || k == 5 || k == 8 || k == 10 || k == 11 || k == 12 || k == 13)) ?_
  rw [Try.ntmps40]
  simp -dsimp [mbsT]
  have hv := mvalidate_cL m hl hf
  simp only [mbsT] at hv
  refine ACall.of hv [] 0 ?_
  by_cases h1 : vldM m = 0
  · simp -dsimp [h1, mems]
    refine ALoop.of [1000075] (fun k => k == 0 || k == 1 || k == 2 || k == 3 || k == 5 || k == 8 || k == 10 || k == 11 || k == 12 || k == 13) (ι := { i : Nat // i ≤ m.l.length })
      (fun z => [(Pl.s 0, It.v (TV.agg [TV.d (D.int IntKind.i64 m.now), TV.d (D.sl (List.map memC m.l))])), (Pl.o 1, It.box [TV.d (D.int IntKind.i64 m.now), TV.d (D.sl (List.map memC m.l))]), (Pl.s 1, It.v (TV.ptr (Pl.o 1) 0)), (Pl.s 2, It.v (TV.c (Value.slice none 0 0))),
        (Pl.o 3, It.row 3 1 (dd (nrow .i64 ((m.l.take z.1).map (·.g)))) false), (Pl.s 3, It.v (TV.oref 3 z.1)),
        (Pl.s 10, It.v (TV.d (D.sl (List.map memC m.l)))), (Pl.s 11, It.v (TV.d (D.int IntKind.i64 m.l.length))), (Pl.s 12, It.v (TV.d (D.int IntKind.i64 z.1)))])
      (fun z => m.l.length - z.1) ⟨0, by omega⟩ ?_ ?_
    · exact GS.own' (k := 3) 3 1 (by simp) (by simp) (by simp [nrow])
    · rintro ⟨i, i1⟩
      by_cases hi : i < m.l.length
      · have hiz : (i : Int) < m.l.length := by omega
        have hg : m.l[i]? = some m.l[i] := List.getElem?_eq_getElem hi
        have ht : (m.l.map (·.g)).take (i + 1) = (m.l.map (·.g)).take i ++ [(m.l[i]).g] := by rw [List.take_add_one]; simp [hg]
        generalize m.l[i] = y at hg ht
        simp -dsimp [hg, memC, hiz, wrap_i64 (n := (i : Int) + 1) (by omega) (by omega)]
        and_intros
        all_goals try first | rfl | omega | exact ⟨by kernel_rfl⟩
        have hdd : dd (nrow .i64 ((m.l.map (·.g)).take (i + 1))) = dd (nrow .i64 ((m.l.map (·.g)).take i)) ++ [[TV.d (.int .i64 y.g)]] := by rw [ht]; simp [nrow, dd]
        exact ⟨⟨i + 1, by omega⟩, GS.to (by simp [hdd]), by simp; omega⟩
      · have hiz : ¬ (i : Int) < m.l.length := by omega
        obtain rfl : i = m.l.length := by omega
        simp -dsimp [hiz]
        have hcl := cpt_len (m.l.map (·.g))
        refine ACall.inpl compact_i (m.l.map (·.g)) ?_
        simp -dsimp [cpt_take]
        and_intros
        all_goals try first | rfl | omega | exact ⟨by kernel_rfl⟩
        refine Fin.of ?_
        simp [h1, ints, nrow]
  · simp -dsimp [h1]
    refine Fin.view 2 ?_
    simp -dsimp
    refine Fin.of ?_
    simp [h1, ints]
theorem mgroups_c (m : Mbs) (hl : m.l.length ≤ 1000000) (hf : ∀ x ∈ m.l, x.f.s.length ≤ 1000000) : Contract Try.prog 40 [mbsT m] [] (.d (ints (if vldM m = 0 then Lib.compact (m.l.map (·.g)) else []))) [] [] := mgroups_cL m hl (fun x hx => Nat.le_trans (hf x hx) (by decide))
end Go.Proofs
