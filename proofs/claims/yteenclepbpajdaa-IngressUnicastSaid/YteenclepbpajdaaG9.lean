/-
  What functions of the program compute, stated as contracts over plain data; the conditions of each stand in its own statement.
-/
import Derived.Test.YteenclepbpajdaaG8
set_option linter.unusedSimpArgs false
set_option maxRecDepth 100000
set_option maxHeartbeats 2000000
namespace Go.Proofs
open Go Go.Tr

theorem planT_def (p : Pn) : planT p = .agg [.d (.int .i64 p.subd), .d (.int .i64 p.len), .d (.sl (eds p.es))] := rfl
def gChL : List Ed → Tp → List Int → List Int × Tp
  | [], T, l => (l, T)
  | e :: es, T, l => gChL es (gNext T 3).2 (if 0 < (gNext T 3).1 then l ++ [e.id] else l)
def gCh (T : Tp) (p : Pn) (n : Int) : List Int × Tp :=
  let X := gChL p.es T []
  if 0 < n then
    if (gOne X.2 n).1 then (X.1 ++ [(gPick (gOne X.2 n).2 [0, 1, 5, 8, 256, 257]).1], (gPick (gOne X.2 n).2 [0, 1, 5, 8, 256, 257]).2) else (X.1, (gOne X.2 n).2)
  else X
theorem choose_c (T : Tp) (hT : TapeOK T) (p : Pn) (hp : p.es.length ≤ 1000) (n : Int) (hn : 0 ≤ n ∧ n ≤ 1000) : Contract Try.prog 8 [.ptr (.x 0) 0, planT p, .d (.int .i64 n)] [tapeI T] (.d (ints (gCh T p n).1)) [tapeI (gCh T p n).2] [] := by
  refine contract_of Try.func8 rfl (fun E0 => ?_)
  refine awp.sound (g := .mk) (ow := []) (kp := (fun k => k == 0 || k == 1 || k == 2 || k == 4 || k == 6 || k == 7 || k == 8 || k == 13 || k == 18 || k == 34)) ?_
  rw [Try.ntmps8]
  simp -dsimp [planT]
  refine ALoop.of [] (fun k => k == 0 || k == 1 || k == 2 || k == 4 || k == 6 || k == 7 || k == 8 || k == 13 || k == 18 || k == 34) (ι := { z : Nat × Tp × List Int // z.1 ≤ p.es.length ∧ TapeOK z.2.1 ∧ z.2.2.length ≤ z.1 ∧ gChL p.es T [] = gChL (p.es.drop z.1) z.2.1 z.2.2 })
    (fun z => [(Pl.s 0, It.v (TV.ptr (Pl.x 0) 0)), (Pl.s 1, It.v (TV.agg [TV.d (D.int IntKind.i64 p.subd), TV.d (D.int IntKind.i64 p.len), TV.d (D.sl (eds p.es))])), (Pl.s 2, It.v (TV.d (D.int IntKind.i64 n))), (Pl.x 0, tapeI z.1.2.1),
      (Pl.o 4, It.box [TV.d (D.int IntKind.i64 p.subd), TV.d (D.int IntKind.i64 p.len), TV.d (D.sl (eds p.es))]), (Pl.s 4, It.v (TV.ptr (Pl.o 4) 0)), (Pl.s 6, It.v (TV.c (Value.slice none 0 0))),
      (Pl.s 7, It.v (TV.oref 7 z.1.2.2.length)), (Pl.s 8, It.v (TV.d (D.int IntKind.i64 z.1.1))), (Pl.o 7, .row 3 1 (dd (z.1.2.2.map fun n => [.int .i64 n])) false)]) (fun z => p.es.length - z.1.1) ⟨(0, T, []), by simp, hT, by simp, rfl⟩ ?_ ?_
  · exact GS.own' (k := 7) 3 1 (by simp) (by simp) (by simp)
  · rintro ⟨⟨i, T', l⟩, i1, i2, i3, i4⟩
    simp only at i1 i2 i3 i4
    by_cases hi : i < p.es.length
    · obtain ⟨x, hx⟩ : ∃ x, p.es[i]? = some x := ⟨p.es[i], List.getElem?_eq_getElem hi⟩
      have hd : p.es.drop i = x :: p.es.drop (i + 1) := by rw [List.getElem?_eq_some_iff] at hx; obtain ⟨_, rfl⟩ := hx; exact List.drop_eq_getElem_cons _
      simp -dsimp [hi]
      refine ACall.of (next_c T' i2 3 ⟨by omega, by omega⟩) [.x 0] 0 ?_
      simp -dsimp
      generalize hc : gNext T' 3 = c
      have kc : TapeOK c.2 := by rw [← hc]; simpa using i2
      refine AIf.dec (fun h0 => ?_) (fun h0 => ?_)
      · simp -dsimp [hi, eds_get' hx, Ed.cs, wrap_i64 (n := (i : Int) + 1) (by omega) (by omega)]
        and_intros
        all_goals try first | omega | exact ⟨by kernel_rfl⟩
        exact ⟨⟨(i + 1, c.2, l ++ [x.id]), by dsimp only; omega, kc, by simp; omega, by dsimp only; rw [i4, hd, gChL, hc, if_pos h0]⟩, GS.to (by simp), by simp; omega⟩
      · simp -dsimp [wrap_i64 (n := (i : Int) + 1) (by omega) (by omega)]
        exact ⟨⟨(i + 1, c.2, l), by dsimp only; omega, kc, by dsimp only; omega, by dsimp only; rw [i4, hd, gChL, hc, if_neg h0]⟩, GS.to (by simp), by simp; omega⟩
    · have hX : gChL p.es T [] = (l, T') := by rw [i4, List.drop_eq_nil_of_le (by omega)]; rfl
      by_cases hn0 : 0 < n
      · simp -dsimp [hi, hn0]
        refine ACall.of (one_c T' i2 n ⟨by omega, by omega⟩ ⟨by omega, by omega⟩) [.x 0] 0 ?_
        simp -dsimp
        generalize hq : gOne T' n = q
        have kq : TapeOK q.2 := by rw [← hq]; simpa using i2
        rcases (Bool.eq_false_or_eq_true q.1).symm with hq1 | hq1
        · simp -dsimp [hq1]
          refine Fin.view 6 ?_
          simp -dsimp
          refine Fin.of ?_
          simp [gCh, hX, hn0, hq, hq1, ints]
        · simp -dsimp [hq1]
          refine ACall.of (pick_c q.2 kq [0, 1, 5, 8, 256, 257] (by simp) (by simp)) [.x 0] 0 ?_
          simp -dsimp [ints]
          and_intros
          all_goals try first | omega | exact ⟨by kernel_rfl⟩
          refine Fin.view 6 ?_
          simp -dsimp
          refine Fin.of ?_
          simp [gCh, hX, hn0, hq, hq1, ints]
      · simp -dsimp [hi, hn0]
        refine Fin.view 6 ?_
        simp -dsimp
        refine Fin.of ?_
        simp [gCh, hX, hn0, ints]
end Go.Proofs
