/-
  What functions of the program compute, stated as contracts over plain data; the conditions of each stand in its own statement.
-/
import Derived.Test.YtkhgmgelbgondaaD11
set_option linter.unusedSimpArgs false
set_option maxRecDepth 100000
set_option maxHeartbeats 8000000
namespace Go.Proofs
open Go Go.Tr

section
variable (vA vB : Wnt → List Wnt) (vC : Wnt → Wnt → List Wnt)
/-- what a visit of the wants of two lists appends, group by group -/
def mrg : List Wnt → List Wnt → List Wnt
  | [], [] => []
  | x :: a, [] => vA x ++ mrg a []
  | [], y :: b => vB y ++ mrg [] b
  | x :: a, y :: b => if x.g < y.g then vA x ++ mrg a (y :: b) else if y.g < x.g then vB y ++ mrg (x :: a) b else vC x y ++ mrg a b
termination_by a b => a.length + b.length
end
theorem merged_c (a b : List Wnt) (hab : a.length + b.length ≤ 1000) (f : FuncId) (hok : fnOK Try.prog f = true) (vA vB : Wnt → List Wnt) (vC : Wnt → Wnt → List Wnt)
    (lA : ∀ x, (vA x).length ≤ 1) (lB : ∀ x, (vB x).length ≤ 1) (lC : ∀ x y, (vC x y).length ≤ 1)
    (hA : ∀ l : List Wnt, l.length ≤ 1000000 → ∀ x ∈ a, Contract2 Try.prog f [.ep (wntC x) 0, .c (.pointer none), .ptr (.x 0) 0] [.box [.oref 900 l.length]] [(900, .row 53 3 (dd (l.map wntC)) false)] (.tup []) [.box [.oref 900 (l ++ vA x).length]] [(900, .row 53 3 (dd ((l ++ vA x).map wntC)) false)])
    (hB : ∀ l : List Wnt, l.length ≤ 1000000 → ∀ x ∈ b, Contract2 Try.prog f [.c (.pointer none), .ep (wntC x) 0, .ptr (.x 0) 0] [.box [.oref 900 l.length]] [(900, .row 53 3 (dd (l.map wntC)) false)] (.tup []) [.box [.oref 900 (l ++ vB x).length]] [(900, .row 53 3 (dd ((l ++ vB x).map wntC)) false)])
    (hC : ∀ l : List Wnt, l.length ≤ 1000000 → ∀ x ∈ a, ∀ y ∈ b, Contract2 Try.prog f [.ep (wntC x) 0, .ep (wntC y) 0, .ptr (.x 0) 0] [.box [.oref 900 l.length]] [(900, .row 53 3 (dd (l.map wntC)) false)] (.tup []) [.box [.oref 900 (l ++ vC x y).length]] [(900, .row 53 3 (dd ((l ++ vC x y).map wntC)) false)]) :
    Contract2 Try.prog 55 [.d (wntD a), .d (wntD b), .clo f [.ptr (.x 0) 0]] [.box [.c (.slice none 0 0)]] [] (.tup []) [.box [.oref 50 (mrg vA vB vC a b).length]] [(50, .row 53 3 (dd ((mrg vA vB vC a b).map wntC)) false)] := by
  refine contract2_of Try.func55 rfl (fun E0 => ?_)
  refine awp.sound (g := .mk) (ow := []) (kp := (fun k => k == 0 || k == 1 || k == 2 || k == 6 || k == 7 || k == 8 || k == 16 || k == 26 || k == 30 || k == 35 || k == 41)) ?_
  rw [Try.ntmps55]
  simp -dsimp [wntD]
  refine ALoop.of [] (fun k => k == 0 || k == 1 || k == 2 || k == 6 || k == 7 || k == 8 || k == 16 || k == 26 || k == 30 || k == 35 || k == 41) (ι := { z : List Wnt × List Wnt × List Wnt // mrg vA vB vC a b = z.1 ++ mrg vA vB vC z.2.1 z.2.2 ∧ z.1.length + z.2.1.length + z.2.2.length ≤ 1000 ∧ (∀ x ∈ z.2.1, x ∈ a) ∧ ∀ y ∈ z.2.2, y ∈ b })
    (fun z => [(Pl.s 0, It.v (TV.d (D.sl (List.map wntC z.1.2.1)))), (Pl.s 1, It.v (TV.d (D.sl (List.map wntC z.1.2.2)))), (Pl.s 2, It.v (TV.clo f [TV.ptr (Pl.x 0) 0])),
      (Pl.x 0, It.box [TV.oref 50 z.1.1.length]), (Pl.o 50, It.row 53 3 (dd (z.1.1.map wntC)) false)])
    (fun z => z.1.2.1.length + z.1.2.2.length) ⟨([], a, b), by simp, by simpa using hab, fun x h => h, fun y h => h⟩ ?_ ?_
  · exact GS.ownB' (.x 0) 0 50 (cs := [TV.c (Value.slice none 0 0)]) 53 3 (by simp) (by simp) (by simp) (by simp) (by simp)
  · rintro ⟨⟨l, a', b'⟩, e1, e2, e3, e4⟩
    simp only at e1 e2 e3 e4
    have hll : l.length ≤ 1000000 := by omega
    have step : ∀ (v a2 b2 : List Wnt) (n : Nat), n = (l ++ v).length → GS { E0 := E0, N := 50 }
        (Tr.look [(Pl.s 0, It.v (TV.d (D.sl (List.map wntC a2)))), (Pl.s 1, It.v (TV.d (D.sl (List.map wntC b2)))), (Pl.s 2, It.v (TV.clo f [TV.ptr (Pl.x 0) 0])),
          (Pl.x 0, It.box [TV.oref 1900 n]), (Pl.o 1900, It.row 53 3 (dd (List.map wntC l) ++ dd (List.map wntC v)) false)])
        (Tr.look [(Pl.s 0, It.v (TV.d (D.sl (List.map wntC a2)))), (Pl.s 1, It.v (TV.d (D.sl (List.map wntC b2)))), (Pl.s 2, It.v (TV.clo f [TV.ptr (Pl.x 0) 0])),
          (Pl.x 0, It.box [TV.oref 50 (l ++ v).length]), (Pl.o 50, It.row 53 3 (dd ((l ++ v).map wntC)) false)]) := fun v a2 b2 n hn => by
      subst hn
      exact GS.ren' 1900 50 (by decide) (by simp) (by simp)
    cases a' with
    | nil =>
      cases b' with
      | nil =>
        simp -dsimp
        refine Fin.of ?_
        simp [e1, mrg]
      | cons y b' =>
        simp only [List.length_nil, List.length_cons] at e2
        have lB' := lB y
        have hc := hB l hll y (e4 y (by simp))
        simp only [wntC] at hc
        simp -dsimp [wntC, wrap_i64 (n := (b'.length : Int) + 1) (by omega) (by omega)]
        and_intros
        all_goals try first | omega | exact ⟨by kernel_rfl⟩
        refine ACall.of2 hc [.x 0] [(900, 50)] 1000 ?_
        simp -dsimp
        and_intros
        all_goals try first | rfl | omega | exact ⟨by kernel_rfl⟩ | exact hok
        exact ⟨⟨(l ++ vB y, [], b'), by dsimp only; rw [e1, mrg]; simp, by simp only [List.length_append, List.length_cons, List.length_nil]; omega, fun z hz => e3 z (by simp [hz]), fun z hz => e4 z (by simp [hz])⟩, (GS.to (by simp [List.take_of_length_le])).trans (step (vB y) [] b' (l.length + (vB y).length) (by simp)), by simp <;> omega⟩
    | cons x a' =>
      have na : ¬ (a'.length : Int) + 1 = 0 := by omega
      have lA' := lA x
      cases b' with
      | nil =>
        simp only [List.length_nil, List.length_cons] at e2
        have hc := hA l hll x (e3 x (by simp))
        simp only [wntC] at hc
        simp -dsimp [wntC, na, wrap_i64 (n := (a'.length : Int) + 1) (by omega) (by omega)]
        and_intros
        all_goals try first | omega | exact ⟨by kernel_rfl⟩
        refine ACall.of2 hc [.x 0] [(900, 50)] 1000 ?_
        simp -dsimp
        and_intros
        all_goals try first | rfl | omega | exact ⟨by kernel_rfl⟩ | exact hok
        exact ⟨⟨(l ++ vA x, a', []), by dsimp only; rw [e1, mrg]; simp, by simp only [List.length_append, List.length_cons, List.length_nil]; omega, fun z hz => e3 z (by simp [hz]), fun z hz => e4 z (by simp [hz])⟩, (GS.to (by simp [List.take_of_length_le])).trans (step (vA x) a' [] (l.length + (vA x).length) (by simp)), by simp <;> omega⟩
      | cons y b' =>
        have nb : ¬ (b'.length : Int) + 1 = 0 := by omega
        simp only [List.length_cons] at e2
        have lB' := lB y
        have lC' := lC x y
        have hcA := hA l hll x (e3 x (by simp))
        have hcB := hB l hll y (e4 y (by simp))
        have hcC := hC l hll x (e3 x (by simp)) y (e4 y (by simp))
        simp only [wntC] at hcA hcB hcC
        simp -dsimp [wntC, na, nb, wrap_i64 (n := (a'.length : Int) + 1) (by omega) (by omega), wrap_i64 (n := (b'.length : Int) + 1) (by omega) (by omega)]
        by_cases c1 : x.g < y.g
        · skip
          refine ACall.of (compare_c x.g y.g) [] 0 ?_
          have sg : sgI x.g y.g = -1 := by simp [sgI, c1]
          rw [sg]
          simp -dsimp [wntC, wrap_i64 (n := (a'.length : Int) + 1) (by omega) (by omega), wrap_i64 (n := (b'.length : Int) + 1) (by omega) (by omega)]
          and_intros
          all_goals try first | omega | exact ⟨by kernel_rfl⟩
          refine ACall.of2 hcA [.x 0] [(900, 50)] 1000 ?_
          simp -dsimp
          and_intros
          all_goals try first | rfl | omega | exact ⟨by kernel_rfl⟩ | exact hok
          exact ⟨⟨(l ++ vA x, a', (y :: b')), by dsimp only; rw [e1, mrg]; simp [c1], by simp only [List.length_append, List.length_cons, List.length_nil]; omega, fun z hz => e3 z (by simp at hz ⊢; first | exact hz | exact .inr hz), fun z hz => e4 z (by simp at hz ⊢; first | exact hz | exact .inr hz)⟩, (GS.to (by simp [List.take_of_length_le, wntC])).trans (step (vA x) a' (y :: b') (l.length + (vA x).length) (by simp)), by simp <;> omega⟩
        by_cases c2 : y.g < x.g
        · skip
          refine ACall.of (compare_c x.g y.g) [] 0 ?_
          have sg : sgI x.g y.g = 1 := by simp [sgI, c1, c2]
          rw [sg]
          simp -dsimp [wntC, wrap_i64 (n := (a'.length : Int) + 1) (by omega) (by omega), wrap_i64 (n := (b'.length : Int) + 1) (by omega) (by omega)]
          and_intros
          all_goals try first | omega | exact ⟨by kernel_rfl⟩
          refine ACall.of2 hcB [.x 0] [(900, 50)] 1000 ?_
          simp -dsimp
          and_intros
          all_goals try first | rfl | omega | exact ⟨by kernel_rfl⟩ | exact hok
          exact ⟨⟨(l ++ vB y, (x :: a'), b'), by dsimp only; rw [e1, mrg]; simp [c1, c2], by simp only [List.length_append, List.length_cons, List.length_nil]; omega, fun z hz => e3 z (by simp at hz ⊢; first | exact hz | exact .inr hz), fun z hz => e4 z (by simp at hz ⊢; first | exact hz | exact .inr hz)⟩, (GS.to (by simp [List.take_of_length_le, wntC])).trans (step (vB y) (x :: a') b' (l.length + (vB y).length) (by simp)), by simp <;> omega⟩
        · skip
          refine ACall.of (compare_c x.g y.g) [] 0 ?_
          have sg : sgI x.g y.g = 0 := by simp [sgI, c1, c2]
          rw [sg]
          simp -dsimp [wntC, wrap_i64 (n := (a'.length : Int) + 1) (by omega) (by omega), wrap_i64 (n := (b'.length : Int) + 1) (by omega) (by omega)]
          and_intros
          all_goals try first | omega | exact ⟨by kernel_rfl⟩
          refine ACall.of2 hcC [.x 0] [(900, 50)] 1000 ?_
          simp -dsimp
          and_intros
          all_goals try first | rfl | omega | exact ⟨by kernel_rfl⟩ | exact hok
          exact ⟨⟨(l ++ vC x y, a', b'), by dsimp only; rw [e1, mrg]; simp [c1, c2], by simp only [List.length_append, List.length_cons, List.length_nil]; omega, fun z hz => e3 z (by simp at hz ⊢; first | exact hz | exact .inr hz), fun z hz => e4 z (by simp at hz ⊢; first | exact hz | exact .inr hz)⟩, (GS.to (by simp [List.take_of_length_le, wntC])).trans (step (vC x y) a' b' (l.length + (vC x y).length) (by simp)), by simp <;> omega⟩
end Go.Proofs
