/-
  What functions of the program compute, stated as contracts over plain data; the conditions of each stand in its own statement.
-/
import Derived.Test.YteenclepbpajdaaE1
set_option linter.unusedSimpArgs false
set_option maxRecDepth 100000
set_option maxHeartbeats 2000000
namespace Go.Proofs
open Go Go.Tr
/-- small enough for the machine's numbers -/
structure Topo.Sm (g : Topo) : Prop where
  r : g.rs.length ≤ 1000000
  l : g.ls.length ≤ 1000000
theorem has05x_c (g : Topo) (hg : g.Sm) (r : Int) : Contract Try.prog 65 [topT g, .d (.int .i64 r)] [] (.d (.bool (decide (chkT g = 0) && hasR g.rs r))) [] [] := by
  refine contract_of Try.func65 rfl (fun E0 => ?_)
  refine awp.sound (g := .mk) (ow := []) (kp := (fun k => k == 0 || k == 1 || k == 2 || k == 4)) ?_
  rw [Try.ntmps65]
  simp -dsimp [topT]
  refine ACall.of (check05_c g hg.r hg.l) [] 0 ?_
  by_cases h : chkT g = 0
  · simp -dsimp [eq_true h, topT]
    refine ACall.of (has05_c g hg.r r) [] 0 ?_
    simp -dsimp [eq_true h, topT]
    and_intros
    all_goals try first | rfl | omega | exact ⟨by kernel_rfl⟩
    refine Fin.of ?_
    simp [h]
  · simp -dsimp [eq_false h, topT]
    and_intros
    all_goals try first | rfl | omega | exact ⟨by kernel_rfl⟩
    refine Fin.of ?_
    simp [h]
/-- the router with a number -/
def rtOf (l : List Rt) (r : Int) : Option Rt := l.find? fun x => decide (x.id = r)
def capR (l : List Rt) (r : Int) : Bool := ((rtOf l r).getD ⟨0, false⟩).cap
theorem capable05_c (g : Topo) (hg : g.Sm) (r : Int) : Contract Try.prog 46 [topT g, .d (.int .i64 r)] [] (.d (.bool (decide (chkT g = 0) && capR g.rs r))) [] [] := by
  have hr := hg.r
  refine contract_of Try.func46 rfl (fun E0 => ?_)
  refine awp.sound (g := .mk) (ow := []) (kp := (fun k => k == 0 || k == 1 || k == 2 || k == 4 || k == 5 || k == 8 || k == 13 || k == 23)) ?_
  rw [Try.ntmps46]
  simp -dsimp [topT]
  refine ACall.of (check05_c g hg.r hg.l) [] 0 ?_
  by_cases h : chkT g = 0
  · simp -dsimp [eq_true h, topT]
    refine ALoop.of [] (fun k => k == 0 || k == 1 || k == 2 || k == 4 || k == 5 || k == 8 || k == 13 || k == 23) (ι := { i : Nat // i ≤ g.rs.length ∧ rtOf g.rs r = rtOf (g.rs.drop i) r }) (fun z => [(Pl.s 0, It.v (TV.agg [TV.d (D.sl (rts g.rs)), TV.d (D.sl (lks g.ls))])), (Pl.s 1, It.v (TV.d (D.int IntKind.i64 r))), (Pl.o 2, It.box [TV.d (D.sl (rts g.rs)), TV.d (D.sl (lks g.ls))]), (Pl.s 2, It.v (TV.ptr (Pl.o 2) 0)), (Pl.s 4, It.v (TV.d (D.bool false))), (Pl.s 5, It.v (TV.d (D.int IntKind.i64 z.1)))]) (fun z => g.rs.length - z.1) ⟨0, by omega, rfl⟩ ?_ ?_
    · exact GS.to (by simp)
    · rintro ⟨i, i1, i2⟩
      by_cases hi : i < g.rs.length
      · have hiz : (i : Int) < g.rs.length := by omega
        have hx : g.rs[i]? = some g.rs[i] := List.getElem?_eq_getElem hi
        generalize g.rs[i] = x at hx
        have hx' := rts_get hx
        by_cases a : x.id = r
        · simp -dsimp [hiz, hx', Rt.cs, eq_true a]
          and_intros
          all_goals try first | rfl | omega | exact ⟨by kernel_rfl⟩
          refine Fin.of ?_
          have e : rtOf g.rs r = some x := find_hit hx i2 (by simp [a])
          simp [h, capR, e]
        · simp -dsimp [hiz, hx', Rt.cs, eq_false a, wrap_i64 (n := (i : Int) + 1) (by omega) (by omega)]
          and_intros
          all_goals try first | rfl | omega | exact ⟨by kernel_rfl⟩
          exact ⟨⟨i + 1, by omega, find_step hx i2 (by simp [a])⟩, GS.to (by simp []), by simp; omega⟩
      · have hiz : ¬ (i : Int) < g.rs.length := by omega
        simp -dsimp [hiz]
        refine Fin.of ?_
        have e : rtOf g.rs r = none := find_end i2 hi
        simp [h, capR, e]
  · simp -dsimp [eq_false h, topT]
    refine Fin.of ?_
    simp [h]
/-- the cost of the link from a router to another one -/
def price : List Lk → Int → Int → Option Int
  | [], _, _ => none
  | x :: l, f, t => if x.a = f ∧ x.b = t then some x.ca else if x.b = f ∧ x.a = t then some x.cb else price l f t
def priceT (o : Option Int) : TV := .tup [.d (.int .i64 (o.getD 0)), .d (.bool o.isSome)]
theorem price05_c (g : Topo) (hg : g.Sm) (f t : Int) : Contract Try.prog 88 [topT g, .d (.int .i64 f), .d (.int .i64 t)] [] (priceT (price g.ls f t)) [] [] := by
  have hl := hg.l
  refine contract_of Try.func88 rfl (fun E0 => ?_)
  refine awp.sound (g := .mk) (ow := []) (kp := (fun k => k == 0 || k == 1 || k == 2 || k == 3 || k == 6 || k == 7 || k == 8 || k == 9 || k == 14 || k == 31 || k == 43)) ?_
  rw [Try.ntmps88]
  simp -dsimp [topT]
  refine ALoop.of [] (fun k => k == 0 || k == 1 || k == 2 || k == 3 || k == 6 || k == 7 || k == 8 || k == 9 || k == 14 || k == 31 || k == 43) (ι := { i : Nat // i ≤ g.ls.length ∧ price g.ls f t = price (g.ls.drop i) f t }) (fun z => [(Pl.s 0, It.v (TV.agg [TV.d (D.sl (rts g.rs)), TV.d (D.sl (lks g.ls))])), (Pl.s 1, It.v (TV.d (D.int IntKind.i64 f))), (Pl.s 2, It.v (TV.d (D.int IntKind.i64 t))), (Pl.o 3, It.box [TV.d (D.sl (rts g.rs)), TV.d (D.sl (lks g.ls))]), (Pl.s 3, It.v (TV.ptr (Pl.o 3) 0)), (Pl.s 6, It.v (TV.d (D.int IntKind.i64 0))), (Pl.s 7, It.v (TV.d (D.bool false))), (Pl.s 8, It.v (TV.d (D.int IntKind.i64 z.1)))]) (fun z => g.ls.length - z.1) ⟨0, by omega, rfl⟩ ?_ ?_
  · exact GS.to (by simp)
  · rintro ⟨i, i1, i2⟩
    by_cases hi : i < g.ls.length
    · have hiz : (i : Int) < g.ls.length := by omega
      have hx : g.ls[i]? = some g.ls[i] := List.getElem?_eq_getElem hi
      have hd : g.ls.drop i = g.ls[i] :: g.ls.drop (i + 1) := List.drop_eq_getElem_cons hi
      generalize g.ls[i] = x at hx hd
      have hx' := lks_get hx
      rw [hd, price] at i2
      by_cases a1 : x.a = f
      · by_cases a2 : x.b = t
        · simp -dsimp [hiz, hx', Lk.cs, eq_true a1, eq_true a2]
          and_intros
          all_goals try first | rfl | omega | exact ⟨by kernel_rfl⟩
          refine Fin.of ?_
          rw [if_pos ⟨a1, a2⟩] at i2
          simp [i2, priceT]
        · by_cases a3 : x.b = f
          · by_cases a4 : x.a = t
            · exfalso; omega
            · simp -dsimp [hiz, hx', Lk.cs, eq_true a1, eq_false a2, eq_true a3, eq_false a4, wrap_i64 (n := (i : Int) + 1) (by omega) (by omega)]
              and_intros
              all_goals try first | rfl | omega | exact ⟨by kernel_rfl⟩
              exact ⟨⟨i + 1, by omega, by rw [i2, if_neg (by omega), if_neg (by omega)]⟩, GS.to (by simp []), by simp; omega⟩
          · simp -dsimp [hiz, hx', Lk.cs, eq_true a1, eq_false a2, eq_false a3, wrap_i64 (n := (i : Int) + 1) (by omega) (by omega)]
            and_intros
            all_goals try first | rfl | omega | exact ⟨by kernel_rfl⟩
            exact ⟨⟨i + 1, by omega, by rw [i2, if_neg (by omega), if_neg (by omega)]⟩, GS.to (by simp []), by simp; omega⟩
      · by_cases a3 : x.b = f
        · by_cases a4 : x.a = t
          · simp -dsimp [hiz, hx', Lk.cs, eq_false a1, eq_true a3, eq_true a4]
            and_intros
            all_goals try first | rfl | omega | exact ⟨by kernel_rfl⟩
            refine Fin.of ?_
            rw [if_neg (by omega), if_pos ⟨a3, a4⟩] at i2
            simp [i2, priceT]
          · simp -dsimp [hiz, hx', Lk.cs, eq_false a1, eq_true a3, eq_false a4, wrap_i64 (n := (i : Int) + 1) (by omega) (by omega)]
            and_intros
            all_goals try first | rfl | omega | exact ⟨by kernel_rfl⟩
            exact ⟨⟨i + 1, by omega, by rw [i2, if_neg (by omega), if_neg (by omega)]⟩, GS.to (by simp []), by simp; omega⟩
        · simp -dsimp [hiz, hx', Lk.cs, eq_false a1, eq_false a3, wrap_i64 (n := (i : Int) + 1) (by omega) (by omega)]
          and_intros
          all_goals try first | rfl | omega | exact ⟨by kernel_rfl⟩
          exact ⟨⟨i + 1, by omega, by rw [i2, if_neg (by omega), if_neg (by omega)]⟩, GS.to (by simp []), by simp; omega⟩
    · have hiz : ¬ (i : Int) < g.ls.length := by omega
      simp -dsimp [hiz]
      refine Fin.of ?_
      rw [List.drop_eq_nil_of_le (by omega), price] at i2
      simp [i2, priceT]
/-- the neighbours of a router -/
def near (g : Topo) (r : Int) : List Int := (g.rs.filter fun x => (price g.ls r x.id).isSome).map (·.id)
theorem near05_c (g : Topo) (hg : g.Sm) (r : Int) : Contract Try.prog 87 [topT g, .d (.int .i64 r)] [] (.d (ints (near g r))) [] [] := by
  have hl := hg.r
  refine contract_of Try.func87 rfl (fun E0 => ?_)
  refine awp.sound (g := .mk) (ow := []) (kp := (fun k => k == 0 || k == 1 || k == 2 || k == 4 || k == 5 || k == 6 || k == 8 || k == 13 || k == 28)) ?_
  rw [Try.ntmps87]
  simp -dsimp [topT]
  refine ALoop.of [] (fun k => k == 0 || k == 1 || k == 2 || k == 4 || k == 5 || k == 6 || k == 8 || k == 13 || k == 28) (ι := { i : Nat // i ≤ g.rs.length ∧ True }) (fun z => [(Pl.s 0, It.v (TV.agg [TV.d (D.sl (rts g.rs)), TV.d (D.sl (lks g.ls))])), (Pl.s 1, It.v (TV.d (D.int IntKind.i64 r))), (Pl.o 2, It.box [TV.d (D.sl (rts g.rs)), TV.d (D.sl (lks g.ls))]), (Pl.s 2, It.v (TV.ptr (Pl.o 2) 0)), (Pl.s 4, It.v (TV.c (Value.slice none 0 0))), (Pl.s 5, It.v (TV.oref 5 (near ⟨g.rs.take z.1, g.ls⟩ r).length)), (Pl.o 5, It.row 3 1 (dd (nrow .i64 (near ⟨g.rs.take z.1, g.ls⟩ r))) false), (Pl.s 6, It.v (TV.d (D.int IntKind.i64 z.1)))]) (fun z => g.rs.length - z.1) ⟨0, by omega, trivial⟩ ?_ ?_
  · exact GS.own' (k := 5) 3 1 (by simp) (by simp) (by simp [ints, nrow, near])
  · rintro ⟨i, i1, i2⟩
    by_cases hi : i < g.rs.length
    · have hiz : (i : Int) < g.rs.length := by omega
      have hx : g.rs[i]? = some g.rs[i] := List.getElem?_eq_getElem hi
      have ht : g.rs.take (i + 1) = g.rs.take i ++ [g.rs[i]] := by rw [List.take_add_one, List.getElem?_eq_getElem hi]; rfl
      generalize g.rs[i] = x at hx ht
      have hx' := rts_get hx
      simp -dsimp [hiz, hx', Rt.cs, topT]
      refine ACall.of (price05_c g hg r x.id) [] 0 ?_
      have hn : (near ⟨g.rs.take i, g.ls⟩ r).length ≤ 1000000 := by
        simp only [near, List.length_map]
        exact Nat.le_trans (List.length_filter_le _ _) (by simp; omega)
      have dl : dLen 1 ((near ⟨g.rs.take i, g.ls⟩ r).map fun x => [D.int .i64 x]) := dLen_map 1 _ _ fun _ => rfl
      rcases (Bool.eq_false_or_eq_true (price g.ls r x.id).isSome).symm with h | h
      · simp -dsimp [hiz, hx', Rt.cs, topT, priceT, h, wrap_i64 (n := (i : Int) + 1) (by omega) (by omega)]
        and_intros
        all_goals try first | rfl | omega | exact ⟨by kernel_rfl⟩
        exact ⟨⟨i + 1, by omega, trivial⟩, GS.to (by simp [near, ht, h]), by simp; omega⟩
      · simp -dsimp [hiz, hx', Rt.cs, topT, priceT, h, ints, wrap_i64 (n := (i : Int) + 1) (by omega) (by omega)]
        and_intros
        all_goals try first | rfl | omega | exact ⟨by kernel_rfl⟩
        exact ⟨⟨i + 1, by omega, trivial⟩, GS.to (by simp [near, ht, h, nrow]), by simp; omega⟩
    · have hiz : ¬ (i : Int) < g.rs.length := by omega
      simp -dsimp [hiz]
      refine Fin.view 4 ?_
      simp -dsimp
      refine Fin.of ?_
      simp [List.take_of_length_le (show g.rs.length ≤ i by omega), ints, nrow]
end Go.Proofs
