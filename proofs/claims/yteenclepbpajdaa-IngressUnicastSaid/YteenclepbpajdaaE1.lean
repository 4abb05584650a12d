/-
  What functions of the program compute, stated as contracts over plain data; the conditions of each stand in its own statement.
-/
import Derived.Test.YteenclepbpajdaaC19
set_option linter.unusedSimpArgs false
set_option maxRecDepth 100000
set_option maxHeartbeats 2000000
namespace Go.Proofs
open Go Go.Tr

section
variable {α : Type} {q : α → Bool} {l : List α} {i : Nat} {x : α}
theorem any_step (hx : l[i]? = some x) (h : l.any q = (l.drop i).any q) (hq : q x = false) : l.any q = (l.drop (i + 1)).any q := by
  obtain ⟨hi, rfl⟩ := List.getElem?_eq_some_iff.1 hx
  rw [h, List.drop_eq_getElem_cons hi, List.any_cons, hq, Bool.false_or]
theorem any_hit (hx : l[i]? = some x) (hq : q x = true) : l.any q = true := by
  rw [List.any_eq_true]; exact ⟨x, List.mem_of_getElem? hx, hq⟩
theorem any_end (h : l.any q = (l.drop i).any q) (hi : ¬ i < l.length) : l.any q = false := by
  rw [h, List.drop_eq_nil_of_le (by omega)]; rfl
theorem find_step (hx : l[i]? = some x) (h : l.find? q = (l.drop i).find? q) (hq : q x = false) : l.find? q = (l.drop (i + 1)).find? q := by
  obtain ⟨hi, rfl⟩ := List.getElem?_eq_some_iff.1 hx
  rw [h, List.drop_eq_getElem_cons hi, List.find?_cons, hq]
theorem find_hit (hx : l[i]? = some x) (h : l.find? q = (l.drop i).find? q) (hq : q x = true) : l.find? q = some x := by
  obtain ⟨hi, rfl⟩ := List.getElem?_eq_some_iff.1 hx
  rw [h, List.drop_eq_getElem_cons hi, List.find?_cons, hq]
theorem find_end (h : l.find? q = (l.drop i).find? q) (hi : ¬ i < l.length) : l.find? q = none := by
  rw [h, List.drop_eq_nil_of_le (by omega)]; rfl
end
/-- some neighbours in a list -/
def adjB {α : Type} (q : α → α → Bool) : List α → Bool
  | x :: y :: r => q x y || adjB q (y :: r)
  | _ => false
section
variable {α : Type} {q : α → α → Bool} {l : List α} {i : Nat} {x y : α}
theorem adj_step (hx : l[i]? = some x) (hy : l[i + 1]? = some y) (h : adjB q l = adjB q (l.drop i)) (hq : q x y = false) : adjB q l = adjB q (l.drop (i + 1)) := by
  obtain ⟨hi, rfl⟩ := List.getElem?_eq_some_iff.1 hx
  obtain ⟨hj, rfl⟩ := List.getElem?_eq_some_iff.1 hy
  rw [h, List.drop_eq_getElem_cons hi, List.drop_eq_getElem_cons hj, adjB, hq, Bool.false_or]
theorem adj_hit (hx : l[i]? = some x) (hy : l[i + 1]? = some y) (h : adjB q l = adjB q (l.drop i)) (hq : q x y = true) : adjB q l = true := by
  obtain ⟨hi, rfl⟩ := List.getElem?_eq_some_iff.1 hx
  obtain ⟨hj, rfl⟩ := List.getElem?_eq_some_iff.1 hy
  rw [h, List.drop_eq_getElem_cons hi, List.drop_eq_getElem_cons hj, adjB, hq, Bool.true_or]
theorem adj_end (h : adjB q l = adjB q (l.drop i)) (hi : ¬ i + 1 < l.length) : adjB q l = false := by
  rw [h]
  cases h : l.drop i with
  | nil => rfl
  | cons a r =>
    cases r with
    | nil => rfl
    | cons b r => have := congrArg List.length h; simp at this; omega
end

def hasR (l : List Rt) (r : Int) : Bool := l.any fun x => decide (x.id = r)
theorem has05_c (g : Topo) (hg : g.rs.length ≤ 1000000) (r : Int) : Contract Try.prog 42 [topT g, .d (.int .i64 r)] [] (.d (.bool (hasR g.rs r))) [] [] := by
  refine contract_of Try.func42 rfl (fun E0 => ?_)
  refine awp.sound (g := .mk) (ow := []) (kp := (fun k => k == 0 || k == 1 || k == 2 || k == 4 || k == 5 || k == 10 || k == 20)) ?_
  rw [Try.ntmps42]
  simp -dsimp [topT]
  refine ALoop.of [] (fun k => k == 0 || k == 1 || k == 2 || k == 4 || k == 5 || k == 10 || k == 20) (ι := { i : Nat // i ≤ g.rs.length ∧ hasR g.rs r = hasR (g.rs.drop i) r }) (fun z => [(Pl.s 0, It.v (TV.agg [TV.d (D.sl (rts g.rs)), TV.d (D.sl (lks g.ls))])), (Pl.s 1, It.v (TV.d (D.int IntKind.i64 r))), (Pl.o 2, It.box [TV.d (D.sl (rts g.rs)), TV.d (D.sl (lks g.ls))]), (Pl.s 2, It.v (TV.ptr (Pl.o 2) 0)), (Pl.s 4, It.v (TV.d (D.bool false))), (Pl.s 5, It.v (TV.d (D.int IntKind.i64 z.1)))]) (fun z => g.rs.length - z.1) ⟨0, by omega, rfl⟩ ?_ ?_
  · exact GS.to (by simp)
  · rintro ⟨i, i1, i2⟩
    by_cases hi : i < g.rs.length
    · have hiz : (i : Int) < g.rs.length := by omega
      have hx : g.rs[i]? = some g.rs[i] := List.getElem?_eq_getElem hi
      generalize g.rs[i] = x at hx
      have hx' := rts_get hx
      by_cases h : x.id = r
      · simp -dsimp [hiz, hx', Rt.cs, eq_true h]
        and_intros
        all_goals try first | rfl | omega | exact ⟨by kernel_rfl⟩
        refine Fin.of ?_
        simp [show hasR g.rs r = true from any_hit hx (by simp [h])]
      · simp -dsimp [hiz, hx', Rt.cs, eq_false h, wrap_i64 (n := (i : Int) + 1) (by omega) (by omega)]
        and_intros
        all_goals try first | rfl | omega | exact ⟨by kernel_rfl⟩
        exact ⟨⟨i + 1, by omega, any_step hx i2 (by simp [h])⟩, GS.to (by simp []), by simp; omega⟩
    · have hiz : ¬ (i : Int) < g.rs.length := by omega
      simp -dsimp [hiz]
      refine Fin.of ?_
      simp [show hasR g.rs r = false from any_end i2 hi]
theorem cost05_c (n : Int) : Contract Try.prog 41 [.d (.int .i64 n)] [] (.d (.bool (inB n 1 1000))) [] [] := by
  refine contract_of Try.func41 rfl (fun E0 => ?_)
  refine awp.sound (g := .mk) (ow := []) (kp := (fun k => k == 0 || k == 2)) ?_
  rw [Try.ntmps41]
  simp -dsimp
  refine AIf.dec (fun h => ?_) (fun h => ?_)
  · simp -dsimp [eq_true h]
    refine Fin.of ?_
    simp [inB, h]
  · simp -dsimp [eq_false h]
    refine Fin.of ?_
    simp [inB, h]
/-- a link with a wrong number -/
def Lk.bad (x : Lk) : Bool := !inB x.ca 1 1000 || !inB x.cb 1 1000 || !inB x.cap 0 1000
/-- the first error of some conditions -/
def firstE : List (Bool × Int) → Int
  | [] => 0
  | (c, e) :: r => bif c then e else firstE r
/-- the first error of a topology -/
def chkT (g : Topo) : Int := firstE [
  (decide (24 < g.rs.length), 3), (decide (60 < g.ls.length), 3),
  (g.rs.any fun x => !inB x.id 1 99, 2),
  (adjB (fun x y => decide (y.id ≤ x.id)) g.rs, 25),
  (g.ls.any Lk.bad, 2),
  (g.ls.any fun x => !hasR g.rs x.a || !hasR g.rs x.b, 4),
  (g.ls.any fun x => decide (x.b ≤ x.a), 8),
  (adjB (fun x y => decide (y.a < x.a) || decide (x.a = y.a) && decide (y.b ≤ x.b)) g.ls, 25)]
theorem check05_c (g : Topo) (hg : g.rs.length ≤ 1000000) (hl : g.ls.length ≤ 1000000) : Contract Try.prog 27 [topT g] [] (.d (.int .i64 (chkT g))) [] [] := by
  refine contract_of Try.func27 rfl (fun E0 => ?_)
  refine awp.sound (g := .mk) (ow := []) (kp := (fun k => k == 0 || k == 1 || k == 2 || k == 3 || k == 4 || k == 5 || k == 6 || k == 7 || k == 8 || k == 9 || k == 10 || k == 11 || k == 21 || k == 26 || k == 44 || k == 49 || k == 65 || k == 70 || k == 97 || k == 102 || k == 124 || k == 129 || k == 144 || k == 149 || k == 181)) ?_
  rw [Try.ntmps27]
  by_cases c1 : 24 < g.rs.length
  · have c1z : (24 : Int) < g.rs.length := by omega
    simp -dsimp [topT, c1z]
    refine Fin.of ?_
    simp [chkT, firstE, c1]
  by_cases c2 : 60 < g.ls.length
  · have c1z : ¬ (24 : Int) < g.rs.length := by omega
    have c2z : (60 : Int) < g.ls.length := by omega
    simp -dsimp [topT, c1z, c2z]
    refine Fin.of ?_
    simp [chkT, firstE, c1, c2]
  have c1z : ¬ (24 : Int) < g.rs.length := by omega
  have c2z : ¬ (60 : Int) < g.ls.length := by omega
  simp -dsimp [topT, c1z, c2z]
  clear c1z c2z
  as_aux_lemma =>
  refine ALoop.of [] (fun k => k == 0 || k == 1 || k == 2 || k == 3 || k == 4 || k == 5 || k == 6 || k == 7 || k == 8 || k == 9 || k == 10 || k == 11 || k == 21 || k == 26 || k == 44 || k == 49 || k == 65 || k == 70 || k == 97 || k == 102 || k == 124 || k == 129 || k == 144 || k == 149 || k == 181) (ι := { i : Nat // i ≤ g.rs.length ∧ (g.rs.any fun x => !inB x.id 1 99) = (g.rs.drop i).any fun x => !inB x.id 1 99 }) (fun z => [(Pl.o 1, It.box [TV.d (D.sl (rts g.rs)), TV.d (D.sl (lks g.ls))]), (Pl.s 1, It.v (TV.ptr (Pl.o 1) 0)), (Pl.s 2, It.v (TV.d (D.int IntKind.i64 0))), (Pl.s 3, It.v (TV.d (D.int IntKind.i64 z.1)))]) (fun z => g.rs.length - z.1) ⟨0, by omega, rfl⟩ ?_ ?_
  · exact GS.to (by simp)
  · rintro ⟨i, i1, i2⟩
    by_cases hi : i < g.rs.length
    · have hiz : (i : Int) < g.rs.length := by omega
      have hx : g.rs[i]? = some g.rs[i] := List.getElem?_eq_getElem hi
      generalize g.rs[i] = x at hx
      have hx' := rts_get hx
      by_cases a1 : x.id < 1
      · simp -dsimp [hiz, hx', Rt.cs, a1]
        and_intros
        all_goals try first | rfl | omega | exact ⟨by kernel_rfl⟩
        refine Fin.of ?_
        have e : (g.rs.any fun x => !inB x.id 1 99) = true := any_hit hx (by simp [inB]; omega)
        simp only [chkT, firstE, cond_true, cond_false, decide_eq_false c1, decide_eq_false c2, e]; simp
      by_cases a2 : 99 < x.id
      · simp -dsimp [hiz, hx', Rt.cs, a1, a2]
        and_intros
        all_goals try first | rfl | omega | exact ⟨by kernel_rfl⟩
        refine Fin.of ?_
        have e : (g.rs.any fun x => !inB x.id 1 99) = true := any_hit hx (by simp [inB]; omega)
        simp only [chkT, firstE, cond_true, cond_false, decide_eq_false c1, decide_eq_false c2, e]; simp
      · simp -dsimp [hiz, hx', Rt.cs, a1, a2, wrap_i64 (n := (i : Int) + 1) (by omega) (by omega)]
        and_intros
        all_goals try first | rfl | omega | exact ⟨by kernel_rfl⟩
        exact ⟨⟨i + 1, by omega, any_step hx i2 (by simp [inB]; omega)⟩, GS.to (by simp []), by simp; omega⟩
    have e1 := any_end i2 hi
    have hiz : ¬ (i : Int) < g.rs.length := by omega
    simp -dsimp [hiz]
    as_aux_lemma =>
    refine ALoop.of [] (fun k => k == 0 || k == 1 || k == 2 || k == 3 || k == 4 || k == 5 || k == 6 || k == 7 || k == 8 || k == 9 || k == 10 || k == 11 || k == 21 || k == 26 || k == 44 || k == 49 || k == 65 || k == 70 || k == 97 || k == 102 || k == 124 || k == 129 || k == 144 || k == 149 || k == 181) (ι := { i : Nat // i ≤ g.rs.length ∧ adjB (fun x y => decide (y.id ≤ x.id)) g.rs = adjB (fun (x y : Rt) => decide (y.id ≤ x.id)) (g.rs.drop i) }) (fun z => [(Pl.o 1, It.box [TV.d (D.sl (rts g.rs)), TV.d (D.sl (lks g.ls))]), (Pl.s 1, It.v (TV.ptr (Pl.o 1) 0)), (Pl.s 2, It.v (TV.d (D.int IntKind.i64 0))), (Pl.s 4, It.v (TV.d (D.int IntKind.i64 ((z.1 : Int) + 1))))]) (fun z => g.rs.length - z.1) ⟨0, by omega, rfl⟩ ?_ ?_
    · exact GS.to (by simp)
    · rintro ⟨i, i1, i2⟩
      by_cases hi : i + 1 < g.rs.length
      · have hi0 : i < g.rs.length := by omega
        have hiz : (i : Int) + 1 < g.rs.length := by omega
        have hx : g.rs[i]? = some g.rs[i] := List.getElem?_eq_getElem hi0
        have hy : g.rs[i + 1]? = some g.rs[i + 1] := List.getElem?_eq_getElem hi
        generalize g.rs[i] = x at hx
        generalize g.rs[i + 1] = y at hy
        have hx' := rts_get hx
        have hy' := rts_get hy
        by_cases a1 : y.id ≤ x.id
        · simp -dsimp [hiz, hx', hy', Rt.cs, a1, toNat_succ, wrap_i64 (n := (i : Int)) (by omega) (by omega)]
          and_intros
          all_goals try first | rfl | omega | exact ⟨by kernel_rfl⟩
          refine Fin.of ?_
          have e := adj_hit hx hy i2 (by simpa using a1)
          simp only [chkT, firstE, cond_true, cond_false, decide_eq_false c1, decide_eq_false c2, e1, e]; simp
        · simp -dsimp [hiz, hx', hy', Rt.cs, a1, toNat_succ, wrap_i64 (n := (i : Int)) (by omega) (by omega), wrap_i64 (n := (i : Int) + 1 + 1) (by omega) (by omega)]
          and_intros
          all_goals try first | rfl | omega | exact ⟨by kernel_rfl⟩
          exact ⟨⟨i + 1, by omega, adj_step hx hy i2 (by simpa using a1)⟩, GS.to (by simp []), by simp; omega⟩
      have e2 := adj_end i2 hi
      have hiz : ¬ (i : Int) + 1 < g.rs.length := by omega
      simp -dsimp [hiz]
      as_aux_lemma =>
      refine ALoop.of [] (fun k => k == 0 || k == 1 || k == 2 || k == 3 || k == 4 || k == 5 || k == 6 || k == 7 || k == 8 || k == 9 || k == 10 || k == 11 || k == 21 || k == 26 || k == 44 || k == 49 || k == 65 || k == 70 || k == 97 || k == 102 || k == 124 || k == 129 || k == 144 || k == 149 || k == 181) (ι := { i : Nat // i ≤ g.ls.length ∧ g.ls.any Lk.bad = (g.ls.drop i).any Lk.bad }) (fun z => [(Pl.o 1, It.box [TV.d (D.sl (rts g.rs)), TV.d (D.sl (lks g.ls))]), (Pl.s 1, It.v (TV.ptr (Pl.o 1) 0)), (Pl.s 2, It.v (TV.d (D.int IntKind.i64 0))), (Pl.s 5, It.v (TV.d (D.int IntKind.i64 z.1)))]) (fun z => g.ls.length - z.1) ⟨0, by omega, rfl⟩ ?_ ?_
      · exact GS.to (by simp)
      · rintro ⟨i, i1, i2⟩
        by_cases hi : i < g.ls.length
        · have hiz : (i : Int) < g.ls.length := by omega
          have hx : g.ls[i]? = some g.ls[i] := List.getElem?_eq_getElem hi
          generalize g.ls[i] = x at hx
          have hx' := lks_get hx
          have hit : Lk.bad x = true → chkT g = 2 := fun h => by
            have e := any_hit hx h
            simp only [chkT, firstE, cond_true, cond_false, decide_eq_false c1, decide_eq_false c2, e1, e2, e]
          simp -dsimp [hiz, hx', Lk.cs]
          refine ACall.of (cost05_c x.ca) [] 0 ?_
          rcases (Bool.eq_false_or_eq_true (inB x.ca 1 1000)).symm with b1 | b1
          · simp -dsimp [hiz, hx', Lk.cs, b1]
            and_intros
            all_goals try first | rfl | omega | exact ⟨by kernel_rfl⟩
            refine Fin.of ?_
            simp [hit (by simp [Lk.bad, b1])]
          simp -dsimp [hiz, hx', Lk.cs, b1]
          refine ACall.of (cost05_c x.cb) [] 0 ?_
          rcases (Bool.eq_false_or_eq_true (inB x.cb 1 1000)).symm with b2 | b2
          · simp -dsimp [hiz, hx', Lk.cs, b1, b2]
            and_intros
            all_goals try first | rfl | omega | exact ⟨by kernel_rfl⟩
            refine Fin.of ?_
            simp [hit (by simp [Lk.bad, b2])]
          by_cases b3 : x.cap < 0
          · simp -dsimp [hiz, hx', Lk.cs, b1, b2, b3]
            and_intros
            all_goals try first | rfl | omega | exact ⟨by kernel_rfl⟩
            refine Fin.of ?_
            simp [hit (by simp [Lk.bad, inB, b1, b2]; omega)]
          by_cases b4 : 1000 < x.cap
          · simp -dsimp [hiz, hx', Lk.cs, b1, b2, b3, b4]
            and_intros
            all_goals try first | rfl | omega | exact ⟨by kernel_rfl⟩
            refine Fin.of ?_
            simp [hit (by simp [Lk.bad, inB, b1, b2]; omega)]
          · simp -dsimp [hiz, hx', Lk.cs, b1, b2, b3, b4, wrap_i64 (n := (i : Int) + 1) (by omega) (by omega)]
            and_intros
            all_goals try first | rfl | omega | exact ⟨by kernel_rfl⟩
            exact ⟨⟨i + 1, by omega, any_step hx i2 (by simp [Lk.bad, b1, b2]; simp [inB]; omega)⟩, GS.to (by simp []), by simp; omega⟩
        have e3 := any_end i2 hi
        have hiz : ¬ (i : Int) < g.ls.length := by omega
        simp -dsimp [hiz]
        as_aux_lemma =>
        refine ALoop.of [] (fun k => k == 0 || k == 1 || k == 2 || k == 3 || k == 4 || k == 5 || k == 6 || k == 7 || k == 8 || k == 9 || k == 10 || k == 11 || k == 21 || k == 26 || k == 44 || k == 49 || k == 65 || k == 70 || k == 97 || k == 102 || k == 124 || k == 129 || k == 144 || k == 149 || k == 181) (ι := { i : Nat // i ≤ g.ls.length ∧ (g.ls.any fun x => !hasR g.rs x.a || !hasR g.rs x.b) = (g.ls.drop i).any fun x => !hasR g.rs x.a || !hasR g.rs x.b }) (fun z => [(Pl.o 1, It.box [TV.d (D.sl (rts g.rs)), TV.d (D.sl (lks g.ls))]), (Pl.s 1, It.v (TV.ptr (Pl.o 1) 0)), (Pl.s 2, It.v (TV.d (D.int IntKind.i64 0))), (Pl.s 7, It.v (TV.d (D.int IntKind.i64 z.1)))]) (fun z => g.ls.length - z.1) ⟨0, by omega, rfl⟩ ?_ ?_
        · exact GS.to (by simp)
        · rintro ⟨i, i1, i2⟩
          by_cases hi : i < g.ls.length
          · have hiz : (i : Int) < g.ls.length := by omega
            have hx : g.ls[i]? = some g.ls[i] := List.getElem?_eq_getElem hi
            generalize g.ls[i] = x at hx
            have hx' := lks_get hx
            have hit : (!hasR g.rs x.a || !hasR g.rs x.b) = true → chkT g = 4 := fun h => by
              have e := any_hit (q := fun x : Lk => !hasR g.rs x.a || !hasR g.rs x.b) hx h
              simp only [chkT, firstE, cond_true, cond_false, decide_eq_false c1, decide_eq_false c2, e1, e2, e3, e]
            simp -dsimp [hiz, hx', Lk.cs]
            refine ACall.of (has05_c g hg x.a) [] 0 ?_
            rcases (Bool.eq_false_or_eq_true (hasR g.rs x.a)).symm with b1 | b1
            · simp -dsimp [hiz, hx', Lk.cs, b1]
              and_intros
              all_goals try first | rfl | omega | exact ⟨by kernel_rfl⟩
              refine Fin.of ?_
              simp [hit (by simp [b1])]
            simp -dsimp [hiz, hx', Lk.cs, b1, topT]
            refine ACall.of (has05_c g hg x.b) [] 0 ?_
            rcases (Bool.eq_false_or_eq_true (hasR g.rs x.b)).symm with b2 | b2
            · simp -dsimp [hiz, hx', Lk.cs, b1, b2]
              and_intros
              all_goals try first | rfl | omega | exact ⟨by kernel_rfl⟩
              refine Fin.of ?_
              simp [hit (by simp [b2])]
            · simp -dsimp [hiz, hx', Lk.cs, b1, b2, wrap_i64 (n := (i : Int) + 1) (by omega) (by omega)]
              and_intros
              all_goals try first | rfl | omega | exact ⟨by kernel_rfl⟩
              exact ⟨⟨i + 1, by omega, any_step hx i2 (by simp [b1, b2])⟩, GS.to (by simp []), by simp; omega⟩
          have e4 := any_end i2 hi
          have hiz : ¬ (i : Int) < g.ls.length := by omega
          simp -dsimp [hiz]
          as_aux_lemma =>
          refine ALoop.of [] (fun k => k == 0 || k == 1 || k == 2 || k == 3 || k == 4 || k == 5 || k == 6 || k == 7 || k == 8 || k == 9 || k == 10 || k == 11 || k == 21 || k == 26 || k == 44 || k == 49 || k == 65 || k == 70 || k == 97 || k == 102 || k == 124 || k == 129 || k == 144 || k == 149 || k == 181) (ι := { i : Nat // i ≤ g.ls.length ∧ (g.ls.any fun x => decide (x.b ≤ x.a)) = (g.ls.drop i).any fun x => decide (x.b ≤ x.a) }) (fun z => [(Pl.o 1, It.box [TV.d (D.sl (rts g.rs)), TV.d (D.sl (lks g.ls))]), (Pl.s 1, It.v (TV.ptr (Pl.o 1) 0)), (Pl.s 2, It.v (TV.d (D.int IntKind.i64 0))), (Pl.s 8, It.v (TV.d (D.int IntKind.i64 z.1)))]) (fun z => g.ls.length - z.1) ⟨0, by omega, rfl⟩ ?_ ?_
          · exact GS.to (by simp)
          · rintro ⟨i, i1, i2⟩
            by_cases hi : i < g.ls.length
            · have hiz : (i : Int) < g.ls.length := by omega
              have hx : g.ls[i]? = some g.ls[i] := List.getElem?_eq_getElem hi
              generalize g.ls[i] = x at hx
              have hx' := lks_get hx
              by_cases b1 : x.b ≤ x.a
              · simp -dsimp [hiz, hx', Lk.cs, b1]
                and_intros
                all_goals try first | rfl | omega | exact ⟨by kernel_rfl⟩
                refine Fin.of ?_
                have e := any_hit (q := fun x : Lk => decide (x.b ≤ x.a)) hx (by simpa using b1)
                simp only [chkT, firstE, cond_true, cond_false, decide_eq_false c1, decide_eq_false c2, e1, e2, e3, e4, e]; simp
              · simp -dsimp [hiz, hx', Lk.cs, b1, wrap_i64 (n := (i : Int) + 1) (by omega) (by omega)]
                and_intros
                all_goals try first | rfl | omega | exact ⟨by kernel_rfl⟩
                exact ⟨⟨i + 1, by omega, any_step hx i2 (by simpa using b1)⟩, GS.to (by simp []), by simp; omega⟩
            have e5 := any_end i2 hi
            have hiz : ¬ (i : Int) < g.ls.length := by omega
            simp -dsimp [hiz]
            as_aux_lemma =>
            refine ALoop.of [] (fun k => k == 0 || k == 1 || k == 2 || k == 3 || k == 4 || k == 5 || k == 6 || k == 7 || k == 8 || k == 9 || k == 10 || k == 11 || k == 21 || k == 26 || k == 44 || k == 49 || k == 65 || k == 70 || k == 97 || k == 102 || k == 124 || k == 129 || k == 144 || k == 149 || k == 181) (ι := { i : Nat // i ≤ g.ls.length ∧ adjB (fun x y => decide (y.a < x.a) || decide (x.a = y.a) && decide (y.b ≤ x.b)) g.ls = adjB (fun (x y : Lk) => decide (y.a < x.a) || decide (x.a = y.a) && decide (y.b ≤ x.b)) (g.ls.drop i) }) (fun z => [(Pl.o 1, It.box [TV.d (D.sl (rts g.rs)), TV.d (D.sl (lks g.ls))]), (Pl.s 1, It.v (TV.ptr (Pl.o 1) 0)), (Pl.s 2, It.v (TV.d (D.int IntKind.i64 0))), (Pl.s 9, It.v (TV.d (D.int IntKind.i64 ((z.1 : Int) + 1))))]) (fun z => g.ls.length - z.1) ⟨0, by omega, rfl⟩ ?_ ?_
            · exact GS.to (by simp)
            · rintro ⟨i, i1, i2⟩
              by_cases hi : i + 1 < g.ls.length
              · have hi0 : i < g.ls.length := by omega
                have hiz : (i : Int) + 1 < g.ls.length := by omega
                have hx : g.ls[i]? = some g.ls[i] := List.getElem?_eq_getElem hi0
                have hy : g.ls[i + 1]? = some g.ls[i + 1] := List.getElem?_eq_getElem hi
                generalize g.ls[i] = x at hx
                generalize g.ls[i + 1] = y at hy
                have hx' := lks_get hx
                have hy' := lks_get hy
                have hit : (decide (y.a < x.a) || decide (x.a = y.a) && decide (y.b ≤ x.b)) = true → chkT g = 25 := fun h => by
                  have e := adj_hit hx hy i2 h
                  simp only [chkT, firstE, cond_true, cond_false, decide_eq_false c1, decide_eq_false c2, e1, e2, e3, e4, e5, e]
                have go : (decide (y.a < x.a) || decide (x.a = y.a) && decide (y.b ≤ x.b)) = false → adjB (fun x y => decide (y.a < x.a) || decide (x.a = y.a) && decide (y.b ≤ x.b)) g.ls = adjB (fun (x y : Lk) => decide (y.a < x.a) || decide (x.a = y.a) && decide (y.b ≤ x.b)) (g.ls.drop (i + 1)) := fun h => adj_step hx hy i2 h
                by_cases b1 : y.a < x.a
                · simp -dsimp [hiz, hx', hy', Lk.cs, b1, toNat_succ, wrap_i64 (n := (i : Int)) (by omega) (by omega)]
                  and_intros
                  all_goals try first | rfl | omega | exact ⟨by kernel_rfl⟩
                  refine Fin.of ?_
                  simp [hit (by simp [b1])]
                by_cases b2 : x.a = y.a
                · by_cases b3 : y.b ≤ x.b
                  · simp -dsimp [hiz, hx', hy', Lk.cs, b1, b2, b3, toNat_succ, wrap_i64 (n := (i : Int)) (by omega) (by omega)]
                    and_intros
                    all_goals try first | rfl | omega | exact ⟨by kernel_rfl⟩
                    refine Fin.of ?_
                    simp [hit (by simp [b2, b3])]
                  · simp -dsimp [hiz, hx', hy', Lk.cs, b1, b2, b3, toNat_succ, wrap_i64 (n := (i : Int)) (by omega) (by omega), wrap_i64 (n := (i : Int) + 1 + 1) (by omega) (by omega)]
                    and_intros
                    all_goals try first | rfl | omega | exact ⟨by kernel_rfl⟩
                    exact ⟨⟨i + 1, by omega, go (by simp [b1, b3])⟩, GS.to (by simp []), by simp; omega⟩
                · simp -dsimp [hiz, hx', hy', Lk.cs, b1, b2, toNat_succ, wrap_i64 (n := (i : Int)) (by omega) (by omega), wrap_i64 (n := (i : Int) + 1 + 1) (by omega) (by omega)]
                  and_intros
                  all_goals try first | rfl | omega | exact ⟨by kernel_rfl⟩
                  exact ⟨⟨i + 1, by omega, go (by simp [b1, b2])⟩, GS.to (by simp []), by simp; omega⟩
              have e6 := adj_end i2 hi
              have hiz : ¬ (i : Int) + 1 < g.ls.length := by omega
              simp -dsimp [hiz]
              refine Fin.of ?_
              simp only [chkT, firstE, cond_true, cond_false, decide_eq_false c1, decide_eq_false c2, e1, e2, e3, e4, e5, e6]; simp
end Go.Proofs
