/-
  What functions of the program compute, stated as contracts over plain data; the conditions of each stand in its own statement.
-/
import Derived.Test.YtkhgmgelbgondaaD8
set_option linter.unusedSimpArgs false
set_option maxRecDepth 100000
set_option maxHeartbeats 8000000
namespace Go.Proofs
open Go Go.Tr

def woQ (h g : Int) (x : Mem) : Bool := !(decide (x.h = h) && decide (x.g = g))
def woM (h g : Int) (l : List Mem) : List Mem := l.filter (woQ h g)
theorem woM_next {h g : Int} {l : List Mem} {i : Nat} {y : Mem} (hy : l[i]? = some y) : woM h g (l.take (i + 1)) = woM h g (l.take i) ++ (if woQ h g y = true then [y] else []) := by
  unfold woM
  rw [List.take_add_one, hy, List.filter_append]
  cases hq : woQ h g y <;> simp [hq]
theorem woM_len (h g : Int) (l : List Mem) (i : Nat) : (woM h g (l.take i)).length ≤ i := by
  unfold woM
  exact Nat.le_trans (List.length_filter_le _ _) (by simp; omega)
theorem without_c (m : Mbs) (hl : m.l.length ≤ 1000000) (h g : Int) : Contract Try.prog 49 [mbsT m, .d (.int .i64 h), .d (.int .i64 g)] [] (mbsT ⟨m.now, woM h g m.l⟩) [] [] := by
  refine contract_of Try.func49 rfl (fun E0 => ?_)
  refine awp.sound (g := .mk) (ow := []) (kp := (fun k => k == 0 || k == 1 || k == 2 || k == 3 || k == 6 || k == 7 || k == 9 || k == 14 || k == 15 || k == 16 || k == 17 || k == 29)) ?_
  rw [Try.ntmps49]
  simp -dsimp [mbsT, mems]
  refine ALoop.of [] (fun k => k == 0 || k == 1 || k == 2 || k == 3 || k == 6 || k == 7 || k == 9 || k == 14 || k == 15 || k == 16 || k == 17 || k == 29) (ι := { i : Nat // i ≤ m.l.length })
    (fun z => [(Pl.s 1, It.v (TV.d (D.int IntKind.i64 h))), (Pl.s 2, It.v (TV.d (D.int IntKind.i64 g))),
      (Pl.o 6, It.box [TV.d (D.int IntKind.i64 0), TV.c (Value.slice none 0 0)]), (Pl.s 6, It.v (TV.ptr (Pl.o 6) 0)),
      (Pl.o 7, It.box [TV.d (D.int IntKind.i64 m.now), TV.oref 50 (woM h g (m.l.take z.1)).length]), (Pl.s 7, It.v (TV.ptr (Pl.o 7) 0)),
      (Pl.o 50, It.row 39 5 (dd ((woM h g (m.l.take z.1)).map memC)) false),
      (Pl.s 14, It.v (TV.d (D.sl (List.map memC m.l)))), (Pl.s 15, It.v (TV.d (D.int IntKind.i64 m.l.length))), (Pl.s 16, It.v (TV.d (D.int IntKind.i64 z.1)))])
    (fun z => m.l.length - z.1) ⟨0, by omega⟩ ?_ ?_
  · exact GS.ownB' (.o 7) 1 50 (cs := [TV.d (D.int IntKind.i64 m.now), TV.c (Value.slice none 0 0)]) 39 5 (by simp) (by simp) (by simp) (by simp) (by simp [woM])
  · rintro ⟨i, i1⟩
    have hll := woM_len h g m.l i
    by_cases hi : i < m.l.length
    · have hiz : (i : Int) < m.l.length := by omega
      have hg : m.l[i]? = some m.l[i] := List.getElem?_eq_getElem hi
      generalize m.l[i] = y at hg
      have hn := woM_next (h := h) (g := g) hg
      have yes : woQ h g y = true → dd ((woM h g (m.l.take (i + 1))).map memC) = dd ((woM h g (m.l.take i)).map memC) ++ [[TV.d (.int .i64 y.h), TV.d (.int .i64 y.g), TV.d (.int .i64 y.f.m), TV.d (ints y.f.s), TV.d (.int .i64 y.u)]] ∧ (woM h g (m.l.take (i + 1))).length = (woM h g (m.l.take i)).length + 1 := fun q => by rw [hn, q]; simp [dd, memC]
      by_cases b1 : y.h = h
      · by_cases b2 : y.g = g
        · have n : woM h g (m.l.take (i + 1)) = woM h g (m.l.take i) := by rw [hn]; simp [woQ, b1, b2]
          simp -dsimp [hg, memC, hiz, eq_true b1, eq_true b2, wrap_i64 (n := (i : Int) + 1) (by omega) (by omega)]
          and_intros
          all_goals try first | rfl | omega | exact ⟨by kernel_rfl⟩
          exact ⟨⟨i + 1, by omega⟩, GS.to (by simp [n]), by simp; omega⟩
        · obtain ⟨n1, n2⟩ := yes (by simp [woQ, b2])
          simp -dsimp [hg, memC, hiz, eq_true b1, b2, wrap_i64 (n := (i : Int) + 1) (by omega) (by omega)]
          and_intros
          all_goals try first | rfl | omega | exact ⟨by kernel_rfl⟩
          exact ⟨⟨i + 1, by omega⟩, GS.to (by simp [n1, n2]), by simp; omega⟩
      · obtain ⟨n1, n2⟩ := yes (by simp [woQ, b1])
        simp -dsimp [hg, memC, hiz, b1, wrap_i64 (n := (i : Int) + 1) (by omega) (by omega)]
        and_intros
        all_goals try first | rfl | omega | exact ⟨by kernel_rfl⟩
        exact ⟨⟨i + 1, by omega⟩, GS.to (by simp [n1, n2]), by simp; omega⟩
    · have hiz : ¬ (i : Int) < m.l.length := by omega
      obtain rfl : i = m.l.length := by omega
      simp -dsimp [hiz]
      refine Fin.box (.o 6) rfl ?_
      simp -dsimp
      refine Fin.of ?_
      simp [mbsT, mems]
/-- a member put in its place among others -/
def wiM (x : Mem) : List Mem → List Mem
  | [] => [x]
  | y :: r => if befM y x = true then y :: wiM x r else x :: y :: r
theorem wiM_bef {x : Mem} : ∀ {A : List Mem} {r : List Mem}, (∀ y ∈ A, befM y x = true) → wiM x (A ++ r) = A ++ wiM x r
  | [], r, _ => rfl
  | y :: A, r, h => by
    have h0 := h y (by simp)
    simp only [List.cons_append, wiM, h0, if_true]
    rw [wiM_bef fun z hz => h z (by simp [hz])]
theorem wiM_done {x : Mem} : ∀ {A r : List Mem}, (∃ y ∈ A, befM y x = false) → wiM x (A ++ r) = wiM x A ++ r
  | [], r, h => by simp at h
  | y :: A, r, h => by
    simp only [List.cons_append, wiM]
    split
    · rename_i hy
      obtain ⟨z, hz, hb⟩ := h
      rcases List.mem_cons.1 hz with rfl | hz
      · rw [hy] at hb; simp at hb
      · rw [wiM_done ⟨z, hz, hb⟩]; rfl
    · rfl
theorem wiM_len (x : Mem) : ∀ l : List Mem, (wiM x l).length = l.length + 1
  | [] => rfl
  | y :: r => by
    simp only [wiM]
    split
    · simp [wiM_len x r]
    · simp
def outW (x : Mem) (l : List Mem) (p : Nat × Bool) : List Mem := if p.2 = true then wiM x (l.take p.1) else l.take p.1
theorem with_c (m : Mbs) (hl : m.l.length ≤ 1000000) (x : Mem) : Contract Try.prog 52 [mbsT m, .agg [.d (.int .i64 x.h), .d (.int .i64 x.g), .d (.int .i64 x.f.m), .d (ints x.f.s), .d (.int .i64 x.u)]] [] (mbsT ⟨m.now, wiM x m.l⟩) [] [] := by
  refine contract_of Try.func52 rfl (fun E0 => ?_)
  refine awp.sound (g := .mk) (ow := []) (kp := (fun k => k == 0 || k == 1 || k == 2 || k == 3 || k == 4 || k == 5 || k == 6 || k == 8 || k == 13 || k == 14 || k == 15 || k == 16 || k == 29 || k == 44)) ?_
  rw [Try.ntmps52]
  simp -dsimp [mbsT, mems]
  refine ALoop.of [] (fun k => k == 0 || k == 1 || k == 2 || k == 3 || k == 4 || k == 5 || k == 6 || k == 8 || k == 13 || k == 14 || k == 15 || k == 16 || k == 29 || k == 44) (ι := { p : Nat × Bool // p.1 ≤ m.l.length ∧ (p.2 = false → ∀ y ∈ m.l.take p.1, befM y x = true) ∧ (p.2 = true → ∃ y ∈ m.l.take p.1, befM y x = false) })
    (fun z => [(Pl.o 3, It.box [TV.d (D.int IntKind.i64 x.h), TV.d (D.int IntKind.i64 x.g), TV.d (D.int IntKind.i64 x.f.m), TV.d (ints x.f.s), TV.d (D.int IntKind.i64 x.u)]), (Pl.s 3, It.v (TV.ptr (Pl.o 3) 0)),
      (Pl.o 4, It.box [TV.d (D.int IntKind.i64 0), TV.c (Value.slice none 0 0)]), (Pl.s 4, It.v (TV.ptr (Pl.o 4) 0)),
      (Pl.o 5, It.box [TV.d (D.int IntKind.i64 m.now), TV.oref 50 (outW x m.l z.1).length]), (Pl.s 5, It.v (TV.ptr (Pl.o 5) 0)),
      (Pl.o 50, It.row 39 5 (dd ((outW x m.l z.1).map memC)) false), (Pl.s 6, It.v (TV.d (D.bool z.1.2))),
      (Pl.s 13, It.v (TV.d (D.sl (List.map memC m.l)))), (Pl.s 14, It.v (TV.d (D.int IntKind.i64 m.l.length))), (Pl.s 15, It.v (TV.d (D.int IntKind.i64 z.1.1)))])
    (fun z => m.l.length - z.1.1) ⟨(0, false), by omega, by simp, by simp⟩ ?_ ?_
  · exact GS.ownB' (.o 5) 1 50 (cs := [TV.d (D.int IntKind.i64 m.now), TV.c (Value.slice none 0 0)]) 39 5 (by simp) (by simp) (by simp) (by simp) (by simp [outW])
  · rintro ⟨⟨i, d⟩, i1, i2, i3⟩
    simp only at i1 i2 i3
    have hll : (outW x m.l (i, d)).length ≤ i + 1 := by
      cases d <;> simp [outW, wiM_len] <;> omega
    by_cases hi : i < m.l.length
    · have hiz : (i : Int) < m.l.length := by omega
      have hg : m.l[i]? = some m.l[i] := List.getElem?_eq_getElem hi
      generalize m.l[i] = y at hg
      have ht : m.l.take (i + 1) = m.l.take i ++ [y] := by rw [List.take_add_one, hg]; rfl
      cases d with
      | true =>
        have e : outW x m.l (i + 1, true) = outW x m.l (i, true) ++ [y] := by simp only [outW, if_true, ht]; exact wiM_done (i3 rfl)
        have n1 : dd ((outW x m.l (i + 1, true)).map memC) = dd ((outW x m.l (i, true)).map memC) ++ [[TV.d (D.int IntKind.i64 y.h), TV.d (D.int IntKind.i64 y.g), TV.d (D.int IntKind.i64 y.f.m), TV.d (ints y.f.s), TV.d (D.int IntKind.i64 y.u)]] := by rw [e]; simp [dd, memC]
        have n2 : (outW x m.l (i + 1, true)).length = (outW x m.l (i, true)).length + 1 := by rw [e]; simp
        simp -dsimp [hg, memC, hiz, wrap_i64 (n := (i : Int) + 1) (by omega) (by omega)]
        and_intros
        all_goals try first | rfl | omega | exact ⟨by kernel_rfl⟩
        exact ⟨⟨(i + 1, true), by dsimp only; omega, by simp, fun _ => by obtain ⟨z, hz, hb⟩ := i3 rfl; exact ⟨z, by dsimp only; rw [ht]; simp [hz], hb⟩⟩, GS.to (by simp [n1, n2]), by simp; omega⟩
      | false =>
        simp -dsimp [hg, memC, hiz]
        refine ACall.of (rbefore_c y x) [] 0 ?_
        have hb0 := i2 rfl
        rcases (Bool.eq_false_or_eq_true (befM y x)).symm with hb | hb
        · have e : outW x m.l (i + 1, true) = outW x m.l (i, false) ++ [x] ++ [y] := by
            simp only [outW, if_true, ht, Bool.false_eq_true, if_false]
            rw [wiM_bef hb0]
            simp [wiM, hb]
          have n1 : dd ((outW x m.l (i + 1, true)).map memC) = dd ((outW x m.l (i, false)).map memC) ++ [[TV.d (D.int IntKind.i64 x.h), TV.d (D.int IntKind.i64 x.g), TV.d (D.int IntKind.i64 x.f.m), TV.d (ints x.f.s), TV.d (D.int IntKind.i64 x.u)]] ++ [[TV.d (D.int IntKind.i64 y.h), TV.d (D.int IntKind.i64 y.g), TV.d (D.int IntKind.i64 y.f.m), TV.d (ints y.f.s), TV.d (D.int IntKind.i64 y.u)]] := by rw [e]; simp [dd, memC]
          have n2 : (outW x m.l (i + 1, true)).length = (outW x m.l (i, false)).length + 1 + 1 := by rw [e]; simp
          simp -dsimp [hb, wrap_i64 (n := (i : Int) + 1) (by omega) (by omega)]
          and_intros
          all_goals try first | rfl | omega | exact ⟨by kernel_rfl⟩
          exact ⟨⟨(i + 1, true), by dsimp only; omega, by simp, fun _ => ⟨y, by dsimp only; rw [ht]; simp, hb⟩⟩, GS.to (by simp [n1, n2]), by simp; omega⟩
        · have e : outW x m.l (i + 1, false) = outW x m.l (i, false) ++ [y] := by simp [outW, ht]
          have n1 : dd ((outW x m.l (i + 1, false)).map memC) = dd ((outW x m.l (i, false)).map memC) ++ [[TV.d (D.int IntKind.i64 y.h), TV.d (D.int IntKind.i64 y.g), TV.d (D.int IntKind.i64 y.f.m), TV.d (ints y.f.s), TV.d (D.int IntKind.i64 y.u)]] := by rw [e]; simp [dd, memC]
          have n2 : (outW x m.l (i + 1, false)).length = (outW x m.l (i, false)).length + 1 := by rw [e]; simp
          simp -dsimp [hb, wrap_i64 (n := (i : Int) + 1) (by omega) (by omega)]
          and_intros
          all_goals try first | rfl | omega | exact ⟨by kernel_rfl⟩
          exact ⟨⟨(i + 1, false), by dsimp only; omega, fun _ z hz => by
            dsimp only at hz; rw [ht] at hz
            rcases List.mem_append.1 hz with hz | hz
            · exact hb0 z hz
            · simp at hz; rw [hz]; exact hb, by simp⟩, GS.to (by simp [n1, n2]), by simp; omega⟩
    · have hiz : ¬ (i : Int) < m.l.length := by omega
      obtain rfl : i = m.l.length := by omega
      cases d with
      | true =>
        have e : outW x m.l (m.l.length, true) = wiM x m.l := by simp [outW]
        simp -dsimp [hiz]
        rw [e]
        refine Fin.box (.o 4) rfl ?_
        simp -dsimp
        refine Fin.of ?_
        simp [mbsT, mems]
      | false =>
        have e : outW x m.l (m.l.length, false) = m.l := by simp [outW]
        have e2 : wiM x m.l = m.l ++ [x] := by
          have := wiM_bef (r := []) (i2 rfl)
          rw [List.take_length, List.append_nil] at this
          exact this
        rw [e] at hll ⊢
        simp -dsimp [hiz]
        and_intros
        all_goals try first | rfl | omega | exact ⟨by kernel_rfl⟩
        refine Fin.box (.o 4) rfl ?_
        simp -dsimp
        refine Fin.of ?_
        simp [mbsT, mems, e2, memC]
end Go.Proofs
