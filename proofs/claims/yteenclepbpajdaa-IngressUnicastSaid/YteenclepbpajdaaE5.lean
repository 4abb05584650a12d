/-
  What functions of the program compute, stated as contracts over plain data; the conditions of each stand in its own statement.
-/
import Derived.Test.YteenclepbpajdaaE4
set_option linter.unusedSimpArgs false
set_option maxRecDepth 100000
set_option maxHeartbeats 2000000
namespace Go.Proofs
open Go Go.Tr
theorem near_len (g : Topo) (r : Int) : (near g r).length ≤ g.rs.length := by
  simp only [near, List.length_map]
  exact List.length_filter_le _ _
theorem atR_bd {g : Topo} {d : List Int} (h : Bd d) (r : Int) : 0 ≤ atR g d r ∧ atR g d r ≤ 1073741824 := by
  unfold atR
  split
  · exact h.getD _
  · omega
theorem price_bd {g : Topo} (hg : g.Ok) (f t : Int) : 0 ≤ (price g.ls f t).getD 0 ∧ (price g.ls f t).getD 0 ≤ 1000 := by
  have : ∀ l : List Lk, (∀ x ∈ l, x ∈ g.ls) → 0 ≤ (price l f t).getD 0 ∧ (price l f t).getD 0 ≤ 1000 := by
    intro l
    induction l with
    | nil => intro _; simp [price]
    | cons x l ih =>
      intro hm
      have hc := hg.c (hm x (by simp))
      rw [price]
      split
      · simp; omega
      · split
        · simp; omega
        · exact ih fun y hy => hm y (by simp [hy])
  exact this g.ls fun _ h => h
/-- the neighbours with which a shortest path begins -/
def stepOK (g : Topo) (d : List Int) (f n : Int) : Bool := decide (atR g d n < 1073741824) && decide ((price g.ls f n).getD 0 + atR g d n = atR g d f)
def steps (g : Topo) (d : List Int) (f : Int) : List Int := if atR g d f = 1073741824 ∨ atR g d f = 0 then [] else (near g f).filter (stepOK g d f)
theorem steps_len (g : Topo) (d : List Int) (f : Int) : (steps g d f).length ≤ g.rs.length := by
  unfold steps
  split
  · simp
  · exact Nat.le_trans (List.length_filter_le _ _) (near_len g f)
theorem steps06_c (g : Topo) (hg : g.Ok) (d : List Int) (hd : g.rs.length ≤ d.length) (hb : Bd d) (f : Int) : Contract Try.prog 67 [topT g, .d (ints d), .d (.int .i64 f)] [] (.d (ints (steps g d f))) [] [] := by
  have hr := hg.sm.r
  have hsm := hg.sm
  refine contract_of Try.func67 rfl (fun E0 => ?_)
  refine awp.sound (g := .mk) (ow := []) (kp := (fun k => k == 0 || k == 1 || k == 2 || k == 3 || k == 6 || k == 7 || k == 8 || k == 9 || k == 10 || k == 11 || k == 22 || k == 29 || k == 62)) ?_
  rw [Try.ntmps67]
  simp -dsimp [topT]
  refine ACall.of (at06_c g hsm d hd f) [] 0 ?_
  by_cases c1 : atR g d f = 1073741824
  · simp -dsimp [topT, eq_true c1]
    and_intros
    all_goals try first | rfl | omega | exact ⟨by kernel_rfl⟩
    refine Fin.view 6 ?_
    simp -dsimp
    refine Fin.of ?_
    simp [steps, c1, ints]
  by_cases c2 : atR g d f = 0
  · simp -dsimp [topT, eq_false c1, eq_true c2]
    and_intros
    all_goals try first | rfl | omega | exact ⟨by kernel_rfl⟩
    refine Fin.view 6 ?_
    simp -dsimp
    refine Fin.of ?_
    simp [steps, c2, ints]
  simp -dsimp [topT, eq_false c1, eq_false c2]
  refine ACall.of (near05_c g hsm f) [] 0 ?_
  simp -dsimp [topT]
  have hst : steps g d f = (near g f).filter (stepOK g d f) := by rw [steps, if_neg (by omega)]
  have hnl := near_len g f
  rw [hst]
  clear hst
  generalize near g f = n at hnl
  have hn1 : n.length ≤ 1000000 := by omega
  refine ALoop.of [] (fun k => k == 0 || k == 1 || k == 2 || k == 3 || k == 6 || k == 7 || k == 8 || k == 9 || k == 10 || k == 11 || k == 22 || k == 29 || k == 62) (ι := { i : Nat // i ≤ n.length ∧ True }) (fun z => [(Pl.s 0, It.v (TV.agg [TV.d (D.sl (rts g.rs)), TV.d (D.sl (lks g.ls))])), (Pl.s 1, It.v (TV.d (ints d))), (Pl.s 2, It.v (TV.d (D.int IntKind.i64 f))), (Pl.o 3, It.box [TV.d (D.sl (rts g.rs)), TV.d (D.sl (lks g.ls))]), (Pl.s 3, It.v (TV.ptr (Pl.o 3) 0)), (Pl.s 6, It.v (TV.c (Value.slice none 0 0))), (Pl.s 8, It.v (TV.d (D.int IntKind.i64 (atR g d f)))), (Pl.s 7, It.v (TV.oref 7 ((n.take z.1).filter (stepOK g d f)).length)), (Pl.o 7, It.row 3 1 (dd (nrow .i64 ((n.take z.1).filter (stepOK g d f)))) false), (Pl.s 9, It.v (TV.d (ints n))), (Pl.s 10, It.v (TV.d (D.int IntKind.i64 z.1)))]) (fun z => n.length - z.1) ⟨0, by omega, trivial⟩ ?_ ?_
  · exact GS.own' (k := 7) 3 1 (by simp) (by simp) (by simp [ints, nrow])
  · rintro ⟨i, i1, i2⟩
    by_cases hi : i < n.length
    · have hiz : (i : Int) < n.length := by omega
      have hx : n[i]? = some n[i] := List.getElem?_eq_getElem hi
      have ht : n.take (i + 1) = n.take i ++ [n[i]] := by rw [List.take_add_one, List.getElem?_eq_getElem hi]; rfl
      generalize n[i] = x at hx ht
      have hp := price_bd hg f x
      have hfl : ((n.take i).filter (stepOK g d f)).length ≤ 1000000 := Nat.le_trans (List.length_filter_le _ _) (by simp; omega)
      have ha := atR_bd (g := g) hb x
      simp -dsimp [hiz, ints, hx]
      refine ACall.of (price05_c g hsm f x) [] 0 ?_
      simp -dsimp [priceT, topT, hx, ints]
      and_intros
      all_goals try first | rfl | omega | exact ⟨by kernel_rfl⟩
      refine ACall.of (at06_c g hsm d hd x) [] 0 ?_
      by_cases b1 : atR g d x < 1073741824
      · simp -dsimp [priceT, topT, hx, ints, b1]
        and_intros
        all_goals try first | rfl | omega | exact ⟨by kernel_rfl⟩
        refine ACall.of (at06_c g hsm d hd x) [] 0 ?_
        by_cases b2 : (price g.ls f x).getD 0 + atR g d x = atR g d f
        · simp -dsimp [priceT, topT, hx, ints, b1, eq_true b2, wrap_i64 (n := (price g.ls f x).getD 0 + atR g d x) (by omega) (by omega), wrap_i64 (n := (i : Int) + 1) (by omega) (by omega)]
          and_intros
          all_goals try first | rfl | omega | exact ⟨by kernel_rfl⟩
          exact ⟨⟨i + 1, by omega, trivial⟩, GS.to (by simp [ht, stepOK, b1, b2, nrow, ints]), by simp; omega⟩
        · simp -dsimp [priceT, topT, hx, ints, b1, eq_false b2, wrap_i64 (n := (price g.ls f x).getD 0 + atR g d x) (by omega) (by omega), wrap_i64 (n := (i : Int) + 1) (by omega) (by omega)]
          and_intros
          all_goals try first | rfl | omega | exact ⟨by kernel_rfl⟩
          exact ⟨⟨i + 1, by omega, trivial⟩, GS.to (by simp [ht, stepOK, b1, b2, nrow, ints]), by simp; omega⟩
      · simp -dsimp [priceT, topT, hx, ints, b1, wrap_i64 (n := (i : Int) + 1) (by omega) (by omega)]
        and_intros
        all_goals try first | rfl | omega | exact ⟨by kernel_rfl⟩
        exact ⟨⟨i + 1, by omega, trivial⟩, GS.to (by simp [ht, stepOK, b1, nrow, ints]), by simp; omega⟩
    · have hiz : ¬ (i : Int) < n.length := by omega
      simp -dsimp [hiz, ints]
      refine Fin.view 6 ?_
      simp -dsimp
      refine Fin.of ?_
      simp [List.take_of_length_le (show n.length ≤ i by omega), ints, nrow]
end Go.Proofs
