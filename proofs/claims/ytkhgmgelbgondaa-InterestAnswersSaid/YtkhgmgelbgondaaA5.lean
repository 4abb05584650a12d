/-
  What functions of the program compute, stated as contracts over plain data; the conditions of each stand in its own statement.
-/
import Derived.Test.YtkhgmgelbgondaaA3
import Derived.Test.YtkhgmgelbgondaaT29
set_option linter.unusedSimpArgs false
set_option maxRecDepth 100000
set_option maxHeartbeats 1000000
namespace Go.Proofs
open Go Go.Tr

theorem rwants_c (f : Flt) (hf : f.s.length ≤ 1000000) (s : Int) : Contract Try.prog 11 [fltT f, .d (.int .i64 s)] [] (.d (.bool (wntV f s))) [] [] := by
  refine contract_of Try.func11 rfl (fun E0 => ?_)
  refine awp.sound (g := .mk) (ow := []) (kp := (fun k => k == 0 || k == 1 || k == 2 || k == 4)) ?_
  rw [Try.ntmps11]
  simp -dsimp [fltT]
  refine ACall.of (rvalidate_c f hf) [] 0 ?_
  by_cases h0 : vld f = 0
  · by_cases h1 : 0 < s
    · have h1' : 1 ≤ s := h1
      simp -dsimp [fltT, h0, h1']
      refine ACall.of (in_c f.s hf s) [] 0 ?_
      simp -dsimp [h0, h1']
      try refine ⟨?_, ⟨by kernel_rfl⟩⟩
      refine Fin.of ?_
      simp [wntV, wnt, hasI, h0, h1]
    · have h1' : ¬ 1 ≤ s := h1
      simp -dsimp [fltT, h0, h1']
      try refine ⟨?_, ⟨by kernel_rfl⟩⟩
      refine Fin.of ?_
      simp [wntV, h1]
  · simp -dsimp [fltT, h0]
    try refine ⟨?_, ⟨by kernel_rfl⟩⟩
    refine Fin.of ?_
    simp [wntV, h0]
theorem nothing_c : Contract Try.prog 51 [] [] (fltT ⟨1, []⟩) [] [] := by
  refine contract_of Try.func51 rfl (fun E0 => ?_)
  refine awp.sound (g := .mk) (ow := []) (kp := (fun k => k == 0)) ?_
  rw [Try.ntmps51]
  simp -dsimp [fltT]
  refine Fin.box (.o 0) rfl ?_
  simp -dsimp
  refine Fin.of ?_
  simp [fltT, ints]
theorem rsame_cL (f g : Flt) (hf : f.s.length ≤ 9223372036854775807) : Contract Try.prog 50 [fltT f, fltT g] [] (.d (.bool (decide (f.m = g.m) && decide (f.s = g.s)))) [] [] := by
  refine contract_of Try.func50 rfl (fun E0 => ?_)
  refine awp.sound (g := .mk) (ow := []) (kp := (fun k => k == 0 || k == 1 || k == 2 || k == 3 || k == 4)) ?_
  rw [Try.ntmps50]
  by_cases h0 : f.m = g.m
  · simp -dsimp [fltT, h0]
    refine ACall.of (ints_cL f.s g.s hf) [] 0 ?_
    simp -dsimp [h0]
    refine Fin.of ?_
    simp [h0]
  · simp -dsimp [fltT, h0]
    refine Fin.of ?_
    simp [h0]
theorem rsame_c (f g : Flt) (hf : f.s.length ≤ 1000000) : Contract Try.prog 50 [fltT f, fltT g] [] (.d (.bool (decide (f.m = g.m) && decide (f.s = g.s)))) [] [] := rsame_cL f g (Nat.le_trans hf (by decide))
def falses : List Bool := List.replicate 100 false
@[simp] theorem falses_len : falses.length = 100 := by simp [falses]
theorem zb58 : zrO Try.prog 109 = some (.agg (falses.map Value.bool).toArray) := by kernel_rfl
theorem setAt_bools {l : List Bool} {q : Nat} (h : q < l.length) (b : Bool) : setAt (l.map fun b => TV.d (.bool b)) q [TV.d (.bool b)] = (l.set q b).map fun b => TV.d (.bool b) := by
  apply List.ext_getElem?
  intro i
  rw [setAt_get (by simp; omega)]
  simp only [List.getElem?_map, List.getElem?_set, List.length_cons, List.length_nil]
  by_cases h1 : i < q
  · rw [if_pos h1, if_neg (by omega)]
  · by_cases h2 : i = q
    · subst h2; simp [h]
    · rw [if_neg h1, if_neg (by omega), if_neg (by omega)]
@[simp] theorem onlys_setb (po : Nat → Prop) (l : List Bool) (i : Nat) (v : Bool) : TV.onlys po ((l.map fun x => TV.d (D.bool x)).set i (.d (.bool v))) = True := by
  have : (l.map fun x => TV.d (D.bool x)).set i (.d (.bool v)) = (l.set i v).map fun x => TV.d (D.bool x) := by rw [List.map_set]
  rw [this, onlys_md]
def preF (l : List Bool) (r : Bool) (i : Nat) : List Int := ((List.range i).map fun (j : Nat) => (j : Int) + 1).filter fun s => l.getD s.toNat false != r
theorem preF_succ (l : List Bool) (r : Bool) (i : Nat) : preF l r (i + 1) = preF l r i ++ (if (l[i + 1]?).getD false != r then [(i : Int) + 1] else []) := by
  simp only [preF, List.range_succ, List.map_append, List.filter_append, List.map_cons, List.map_nil, List.filter_cons, List.filter_nil, toNat_succ, List.getD_eq_getElem?_getD]
theorem preF_len (l : List Bool) (r : Bool) (i : Nat) : (preF l r i).length ≤ i := by
  unfold preF
  exact Nat.le_trans (List.length_filter_le _ _) (by simp)
theorem mkF_pre (l : List Bool) (r : Bool) : mkF (fun s => l[s.toNat]?.getD false) r = ⟨if r then 2 else 1, preF l r 99⟩ := by
  simp only [mkF, preF, rngI, List.getD_eq_getElem?_getD]
theorem rof_c (l : List Bool) (hl : l.length = 100) (r : Bool) : Contract Try.prog 90 [.agg (l.map fun b => .d (.bool b)), .d (.bool r)] [] (fltT (mkF (fun s => l.getD s.toNat false) r)) [] [] := by
  refine contract_of Try.func90 rfl (fun E0 => ?_)
  refine awp.sound (g := .mk) (ow := []) (kp := (fun k => k == 0 || k == 1 || k == 2 || k == 4 || k == 5 || k == 6 || k == 8 || k == 11 || k == 18)) ?_
  rw [Try.ntmps90]
  cases r
  · simp -dsimp [ints, hl]
    refine ⟨by rintro c (⟨_, rfl⟩ | ⟨_, rfl⟩) <;> rfl, ?_⟩
    refine ALoop.of [] (fun k => k == 0 || k == 1 || k == 2 || k == 4 || k == 5 || k == 6 || k == 8 || k == 11 || k == 18) (ι := { i : Nat // i ≤ 99 })
      (fun z => [(Pl.s 0, It.v (TV.agg (List.map (fun b => TV.d (D.bool b)) l))), (Pl.s 1, It.v (TV.d (D.bool false))), (Pl.o 2, It.box (List.map (fun b => TV.d (D.bool b)) l)), (Pl.s 2, It.v (TV.ptr (Pl.o 2) 0)),
        (Pl.o 4, It.box [TV.d (D.int IntKind.i64 0), TV.c (Value.slice none 0 0)]), (Pl.s 4, It.v (TV.ptr (Pl.o 4) 0)),
        (Pl.o 5, It.box [TV.d (D.int IntKind.i64 1), TV.oref 50 (preF l false z.1).length]), (Pl.s 5, It.v (TV.ptr (Pl.o 5) 0)), (Pl.s 6, It.v (TV.d (D.int IntKind.i64 (z.1 + 1)))),
        (Pl.o 50, .row 3 1 (dd (nrow .i64 (preF l false z.1))) false)]) (fun z => 99 - z.1) ⟨0, by omega⟩ ?_ ?_
    · exact GS.ownB' (.o 5) 1 50 (cs := [TV.d (D.int IntKind.i64 1), TV.c (Value.slice none 0 0)]) 3 1 (by simp) (by simp) (by simp) (by simp) (by simp [preF, nrow])
    · rintro ⟨i, i1⟩
      have hpl := preF_len l false i
      by_cases hi : i < 99
      · have hil : i + 1 < l.length := by omega
        have hiz : (i : Int) + 1 ≤ 99 := by omega
        have hg : l[i + 1]? = some l[i + 1] := List.getElem?_eq_getElem hil
        rcases (Bool.eq_false_or_eq_true l[i + 1]).symm with h | h
        · have hs := preF_succ l false i
          rw [hg, h] at hs
          simp at hs
          rw [h] at hg
          simp -dsimp [hg, hiz, toNat_succ, wrap_i64 (n := (i : Int) + 1 + 1) (by omega) (by omega)]
          and_intros
          all_goals try first | omega | exact ⟨by kernel_rfl⟩
          exact ⟨⟨i + 1, by omega⟩, GS.to (by simp [hs, nrow]), by simp; omega⟩
        · have hs := preF_succ l false i
          rw [hg, h] at hs
          simp at hs
          rw [h] at hg
          simp -dsimp [hg, hiz, toNat_succ, wrap_i64 (n := (i : Int) + 1 + 1) (by omega) (by omega)]
          and_intros
          all_goals try first | omega | exact ⟨by kernel_rfl⟩
          exact ⟨⟨i + 1, by omega⟩, GS.to (by simp [hs, nrow]), by simp; omega⟩
      · obtain rfl : i = 99 := by omega
        simp -dsimp
        refine Fin.box (.o 4) rfl ?_
        simp -dsimp
        refine Fin.of ?_
        rw [mkF_pre]
        simp [fltT, ints, nrow]
  · simp -dsimp [ints, hl]
    refine ⟨by rintro c (⟨_, rfl⟩ | ⟨_, rfl⟩) <;> rfl, ?_⟩
    refine ALoop.of [] (fun k => k == 0 || k == 1 || k == 2 || k == 4 || k == 5 || k == 6 || k == 8 || k == 11 || k == 18) (ι := { i : Nat // i ≤ 99 })
      (fun z => [(Pl.s 0, It.v (TV.agg (List.map (fun b => TV.d (D.bool b)) l))), (Pl.s 1, It.v (TV.d (D.bool true))), (Pl.o 2, It.box (List.map (fun b => TV.d (D.bool b)) l)), (Pl.s 2, It.v (TV.ptr (Pl.o 2) 0)),
        (Pl.o 4, It.box [TV.d (D.int IntKind.i64 0), TV.c (Value.slice none 0 0)]), (Pl.s 4, It.v (TV.ptr (Pl.o 4) 0)),
        (Pl.o 5, It.box [TV.d (D.int IntKind.i64 2), TV.oref 50 (preF l true z.1).length]), (Pl.s 5, It.v (TV.ptr (Pl.o 5) 0)), (Pl.s 6, It.v (TV.d (D.int IntKind.i64 (z.1 + 1)))),
        (Pl.o 50, .row 3 1 (dd (nrow .i64 (preF l true z.1))) false)]) (fun z => 99 - z.1) ⟨0, by omega⟩ ?_ ?_
    · exact GS.ownB' (.o 5) 1 50 (cs := [TV.d (D.int IntKind.i64 2), TV.c (Value.slice none 0 0)]) 3 1 (by simp) (by simp) (by simp) (by simp) (by simp [preF, nrow])
    · rintro ⟨i, i1⟩
      have hpl := preF_len l true i
      by_cases hi : i < 99
      · have hil : i + 1 < l.length := by omega
        have hiz : (i : Int) + 1 ≤ 99 := by omega
        have hg : l[i + 1]? = some l[i + 1] := List.getElem?_eq_getElem hil
        rcases (Bool.eq_false_or_eq_true l[i + 1]).symm with h | h
        · have hs := preF_succ l true i
          rw [hg, h] at hs
          simp at hs
          rw [h] at hg
          simp -dsimp [hg, hiz, toNat_succ, wrap_i64 (n := (i : Int) + 1 + 1) (by omega) (by omega)]
          and_intros
          all_goals try first | omega | exact ⟨by kernel_rfl⟩
          exact ⟨⟨i + 1, by omega⟩, GS.to (by simp [hs, nrow]), by simp; omega⟩
        · have hs := preF_succ l true i
          rw [hg, h] at hs
          simp at hs
          rw [h] at hg
          simp -dsimp [hg, hiz, toNat_succ, wrap_i64 (n := (i : Int) + 1 + 1) (by omega) (by omega)]
          and_intros
          all_goals try first | omega | exact ⟨by kernel_rfl⟩
          exact ⟨⟨i + 1, by omega⟩, GS.to (by simp [hs, nrow]), by simp; omega⟩
      · obtain rfl : i = 99 := by omega
        simp -dsimp
        refine Fin.box (.o 4) rfl ?_
        simp -dsimp
        refine Fin.of ?_
        rw [mkF_pre]
        simp [fltT, ints, nrow]
theorem mkF_congr {p p' : Int → Bool} (r : Bool) (h : ∀ s, 1 ≤ s → s ≤ 99 → p s = p' s) : mkF p r = mkF p' r := by
  unfold mkF
  congr 1
  refine List.filter_congr fun s hs => ?_
  obtain ⟨h1, h2⟩ := mem_rng.1 hs
  rw [h s h1 h2]
theorem rcombine_c (a b : Flt) (ha : a.s.length ≤ 1000000) (hb : b.s.length ≤ 1000000) (both : Bool) : Contract Try.prog 84 [fltT a, fltT b, .d (.bool both)] [] (.tup [fltT (refC (kB both) a b).1, .d (.int .i64 (refC (kB both) a b).2)]) [] [] := by
  refine contract_of Try.func84 rfl (fun E0 => ?_)
  refine awp.sound (g := .mk) (ow := []) (kp := (fun k => k == 0 || k == 1 || k == 2 || k == 3 || k == 4 || k == 6 || k == 7 || k == 8 || k == 9 || k == 10 || k == 11 || k == 12 || k == 13 || k == 14 || k == 15 || k == 19 || k == 25 || k == 29 || k == 53)) ?_
  rw [Try.ntmps84]
  simp -dsimp [fltT]
  refine ACall.of (rvalidate_c a ha) [] 0 ?_
  simp -dsimp [fltT]
  by_cases h0 : vld a = 0
  · simp -dsimp [h0]
    refine ACall.of (rvalidate_c b hb) [] 0 ?_
    by_cases h1 : vld b = 0
    · simp -dsimp [h1, zb58, Function.comp_def, fltT]
      refine ALoop.of [] (fun k => k == 0 || k == 1 || k == 2 || k == 3 || k == 4 || k == 6 || k == 7 || k == 8 || k == 9 || k == 10 || k == 11 || k == 12 || k == 13 || k == 14 || k == 15 || k == 19 || k == 25 || k == 29 || k == 53) (ι := { z : Nat × List Bool × Bool // z.1 ≤ 100 ∧ z.2.1.length = 100 ∧ (∀ j : Nat, j < z.1 → j < 99 → z.2.1[j + 1]? = some (kB both (wntV a ((j : Int) + 1)) (wntV b ((j : Int) + 1)))) ∧ (99 < z.1 → z.2.2 = kB both (wntV a 100) (wntV b 100)) })
        (fun z => [(Pl.s 0, It.v (fltT a)), (Pl.s 1, It.v (fltT b)), (Pl.s 2, It.v (TV.d (D.bool both))),
          (Pl.o 3, It.box [TV.d (D.int IntKind.i64 a.m), TV.d (ints a.s)]), (Pl.s 3, It.v (TV.ptr (Pl.o 3) 0)),
          (Pl.o 4, It.box [TV.d (D.int IntKind.i64 b.m), TV.d (ints b.s)]), (Pl.s 4, It.v (TV.ptr (Pl.o 4) 0)),
          (Pl.o 6, It.box [TV.d (D.int IntKind.i64 0), TV.c (Value.slice none 0 0)]), (Pl.s 6, It.v (TV.ptr (Pl.o 6) 0)),
          (Pl.s 7, It.v (TV.d (D.int IntKind.i64 0))), (Pl.o 10, It.box (List.map (fun x => TV.d (D.bool x)) z.1.2.1)),
          (Pl.s 10, It.v (TV.ptr (Pl.o 10) 0)), (Pl.s 11, It.v (TV.d (D.bool z.1.2.2))), (Pl.s 12, It.v (TV.d (D.int IntKind.i64 (z.1.1 + 1))))]) (fun z => 100 - z.1.1) ⟨(0, falses, false), by simp⟩ ?_ ?_
      · exact GS.to (by simp [fltT])
      · rintro ⟨⟨i, l, g⟩, i1, i2, i3, i4⟩
        simp only at i1 i2 i3 i4
        by_cases hi : i < 100
        · have hiz : (i : Int) + 1 ≤ 100 := by omega
          have hil : i + 1 < l.length ∨ i = 99 := by omega
          simp -dsimp [hiz, fltT]
          refine ACall.of (rwants_c a ha (i + 1)) [] 0 ?_
          simp -dsimp [fltT]
          refine ACall.of (rwants_c b hb (i + 1)) [] 0 ?_
          generalize hx : wntV a ((i : Int) + 1) = x
          generalize hy : wntV b ((i : Int) + 1) = y
          have hk : kB both (wntV a ((i : Int) + 1)) (wntV b ((i : Int) + 1)) = kB both x y := by rw [hx, hy]
          generalize hv : kB both x y = v at hk
          by_cases hi9 : i < 99
          · have hl9 : i + 1 < l.length := by omega
            have hz9 : (i : Int) + 1 ≤ 99 := by omega
            have hset : ∀ j : Nat, j < i + 1 → j < 99 → (l.set (i + 1) v)[j + 1]? = some (kB both (wntV a ((j : Int) + 1)) (wntV b ((j : Int) + 1))) := fun j h1 h2 => by
              by_cases e : j = i
              · subst e; rw [List.getElem?_set_self hl9, hk]
              · rw [List.getElem?_set_ne (by omega)]; exact i3 j (by omega) h2
            cases x <;> cases y <;> cases both <;> simp only [kB, Bool.and_true, Bool.and_false, Bool.true_and, Bool.false_and, Bool.or_true, Bool.or_false, Bool.not_true, Bool.not_false] at hv <;> subst hv
            all_goals
              simp -dsimp [hz9, hl9, toNat_succ, -setAt, setAt_bools hl9, wrap_i64 (n := (i : Int) + 1 + 1) (by omega) (by omega)]
              and_intros
              all_goals try first | rfl | omega | exact ⟨by kernel_rfl⟩
              exact ⟨⟨(i + 1, l.set (i + 1) _, g), by dsimp only; omega, by simpa using i2, hset, fun h => by dsimp only at h; omega⟩, GS.to (by simp [fltT]), by simp; omega⟩
          · obtain rfl : i = 99 := by omega
            have hk1 : v = kB both (wntV a 100) (wntV b 100) := hk.symm
            cases x <;> cases y <;> cases both <;> simp only [kB, Bool.and_true, Bool.and_false, Bool.true_and, Bool.false_and, Bool.or_true, Bool.or_false, Bool.not_true, Bool.not_false] at hv <;> subst hv
            all_goals
              simp -dsimp
              and_intros
              all_goals try first | rfl | omega | exact ⟨by kernel_rfl⟩
              exact ⟨⟨(100, l, _), by simp, i2, fun j h1 h2 => i3 j (by dsimp only at h1 ⊢; omega) h2, fun _ => hk1⟩, GS.to (by simp [fltT, wrap_i64 (n := 101) (by omega) (by omega)]), by simp⟩
        · obtain rfl : i = 100 := by omega
          have ht : List.take 100 (List.map (fun x => TV.d (D.bool x)) l) = List.map (fun x => TV.d (D.bool x)) l := List.take_of_length_le (by simp; omega)
          simp -dsimp [ht]
          refine ⟨by omega, ?_⟩
          refine ACall.of (rof_c l i2 g) [] 0 ?_
          simp -dsimp [fltT]
          refine Fin.of ?_
          have hm : mkF (fun s => kB both (wntV a s) (wntV b s)) (kB both (wntV a 100) (wntV b 100)) = mkF (fun s => l.getD s.toNat false) g := by
            rw [i4 (by omega)]
            refine mkF_congr _ fun s h1 h2 => ?_
            have := i3 (s - 1).toNat (by omega) (by omega)
            rw [show ((s - 1).toNat : Int) + 1 = s by omega, show (s - 1).toNat + 1 = s.toNat by omega] at this
            simp [this]
          simp only [refC, h0, h1, hm]
          simp [fltT]
    · simp -dsimp [h1, fltT]
      refine Fin.box (.o 6) rfl ?_
      simp -dsimp
      refine Fin.of ?_
      simp [refC, h0, h1, fltT, ints, noF]
  · simp -dsimp [h0]
    refine Fin.box (.o 6) rfl ?_
    simp -dsimp
    refine Fin.of ?_
    simp [refC, h0, fltT, ints, noF]
end Go.Proofs
