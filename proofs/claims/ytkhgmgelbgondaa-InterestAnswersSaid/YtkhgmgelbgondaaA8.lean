/-
  What functions of the program compute, stated as contracts over plain data; the conditions of each stand in its own statement.
-/
import Derived.Test.YtkhgmgelbgondaaA7
set_option linter.unusedSimpArgs false
set_option maxRecDepth 100000
set_option maxHeartbeats 1000000
namespace Go.Proofs
open Go Go.Tr

theorem cpt_len (zs : List Int) : (Lib.compact zs).length ≤ zs.length := by
  unfold Lib.compact Lib.compactUpTo
  rw [List.length_map]
  exact Nat.le_trans (List.length_filter_le _ _) (by simp)
theorem sort_i : InplC Try.prog 87 .i64 (fun zs => zs.mergeSort fun x y => decide (x ≤ y)) none := InplC.sort Try.lSort
theorem compact_i : InplC Try.prog 75 .i64 cpt (some fun zs => (Lib.compact zs).length) := InplC.compact Try.lCompact cpt_len
theorem cpt_take (zs : List Int) : (cpt zs).take (Lib.compact zs).length = Lib.compact zs := by simp [cpt]
theorem comb_err {K : Bool → Bool → Bool} {a b : Flt} (h : ¬ corV (vld a) (vld b) = 0) : comb K a b = (noF, corV (vld a) (vld b)) := by
  unfold comb corV at *
  by_cases h0 : vld a = 0
  · simp only [h0, ne_eq, not_true_eq_false, if_false] at h ⊢
    rw [if_pos h]
  · simp [h0]
theorem comb_no {K : Bool → Bool → Bool} {a b : Flt} (h : corV (vld a) (vld b) = 0) : comb K a b = (combR K a b, 0) := by
  unfold comb corV at *
  by_cases h0 : vld a = 0
  · simp only [h0, ne_eq, not_true_eq_false, if_false] at h ⊢
    simp [h]
  · simp [h0] at h
theorem combine_c (a b : Flt) (ha : a.s.length ≤ 10000) (hb : b.s.length ≤ 10000) (g : FuncId) (K : Bool → Bool → Bool) (hg : ∀ x y, Contract Try.prog g [.d (.bool x), .d (.bool y)] [] (.d (.bool (K x y))) [] []) (hok : fnOK Try.prog g = true) :
    Contract Try.prog 76 [fltT a, fltT b, .clo g []] [] (.tup [fltT (comb K a b).1, .d (.int .i64 (comb K a b).2)]) [] [] := by
  refine contract_of Try.func76 rfl (fun E0 => ?_)
  refine awp.sound (g := .mk) (ow := [1000087, 1000075]) (kp := (fun k => k == 0 || k == 1 || k == 2 || k == 3 || k == 4 || k == 6 || k == 7 || k == 8 || k == 9 || k == 10 || k == 11 || k == 13 || k == 21 || k == 33 || k == 44 || k == 45 || k == 46 || k == 47 || k == 59)) ?_
  rw [Try.ntmps76]
  simp -dsimp [fltT]
  refine ACall.of (validate_c a (by omega)) [] 0 ?_
  simp -dsimp [fltT]
  refine ACall.of (validate_c b (by omega)) [] 0 ?_
  simp -dsimp [fltT]
  refine ACall.of (cor_c (vld a) (vld b)) [] 0 ?_
  simp -dsimp [fltT, ints]
  by_cases h0 : corV (vld a) (vld b) = 0
  · simp -dsimp [h0]
    try refine ⟨?_, ⟨by kernel_rfl⟩⟩
    have hc := hg (decide (a.m = 2)) (decide (b.m = 2))
    refine ACall.of hc [] 0 ?_
    generalize hr : K (decide (a.m = 2)) (decide (b.m = 2)) = r
    cases r
    · obtain ⟨q, hq⟩ : ∃ q : Int → Bool, ∀ s, q s = (K (wnt a s) (wnt b s) != false) := ⟨_, fun _ => rfl⟩
      have hR : combR K a b = ⟨1, (Lib.compact ((a.s ++ b.s).mergeSort fun x y => decide (x ≤ y))).filter q⟩ := by
        rw [show q = _ from funext hq]; unfold combR srt; rw [hr]; rfl
      simp -dsimp [hok]
      refine ACall.of (concat_c a.s b.s (by omega) (by omega)) [] 1000 ?_
      simp -dsimp [ints]
      and_intros
      all_goals try first | omega | exact ⟨by kernel_rfl⟩
      refine ACall.inpl sort_i (a.s ++ b.s) ?_
      simp -dsimp
      and_intros
      all_goals try first | omega | exact ⟨by kernel_rfl⟩
      have hsl : ((a.s ++ b.s).mergeSort fun x y => decide (x ≤ y)).length = a.s.length + b.s.length := by rw [List.length_mergeSort, List.length_append]
      refine ACall.inpl compact_i ((a.s ++ b.s).mergeSort fun x y => decide (x ≤ y)) ?_
      have hcl := cpt_len ((a.s ++ b.s).mergeSort fun x y => decide (x ≤ y))
      simp -dsimp [cpt_take]
      and_intros
      all_goals try first | omega | exact ⟨by kernel_rfl⟩
      generalize (a.s ++ b.s).mergeSort (fun x y => decide (x ≤ y)) = c0 at hsl hcl hR ⊢
      generalize Lib.compact c0 = c at hcl hR ⊢
      refine ALoop.of [1000087, 1000075] (fun k => k == 0 || k == 1 || k == 2 || k == 3 || k == 4 || k == 6 || k == 7 || k == 8 || k == 9 || k == 10 || k == 11 || k == 13 || k == 21 || k == 33 || k == 44 || k == 45 || k == 46 || k == 47 || k == 59) (ι := { i : Nat // i ≤ c.length })
        (fun z => [(Pl.s 0, It.v (fltT a)), (Pl.s 1, It.v (fltT b)), (Pl.s 2, It.v (TV.clo g [])),
          (Pl.o 3, It.box [TV.d (D.int IntKind.i64 a.m), TV.d (ints a.s)]), (Pl.s 3, It.v (TV.ptr (Pl.o 3) 0)),
          (Pl.o 4, It.box [TV.d (D.int IntKind.i64 b.m), TV.d (ints b.s)]), (Pl.s 4, It.v (TV.ptr (Pl.o 4) 0)),
          (Pl.o 6, It.box [TV.d (D.int IntKind.i64 0), TV.c (Value.slice none 0 0)]), (Pl.s 6, It.v (TV.ptr (Pl.o 6) 0)), (Pl.s 7, It.v (TV.d (D.int IntKind.i64 0))),
          (Pl.s 9, It.v (TV.d (D.bool false))), (Pl.o 10, It.box [TV.d (D.int IntKind.i64 1), TV.oref 50 ((c.take z.1).filter q).length]), (Pl.s 10, It.v (TV.ptr (Pl.o 10) 0)),
          (Pl.o 50, It.row 3 1 (dd (nrow .i64 ((c.take z.1).filter q))) false),
          (Pl.s 44, It.v (TV.d (D.sl (nrow .i64 c)))), (Pl.s 45, It.v (TV.d (D.int IntKind.i64 c.length))), (Pl.s 46, It.v (TV.d (D.int IntKind.i64 z.1)))]) (fun z => c.length - z.1) ⟨0, by omega⟩ ?_ ?_
      · exact GS.ownB' (.o 10) 1 50 (cs := [TV.d (D.int IntKind.i64 1), TV.c (Value.slice none 0 0)]) 3 1 (by simp) (by simp) (by simp) (by simp) (by simp [fltT, ints, nrow])
      · rintro ⟨i, i1⟩
        have hfl : ((c.take i).filter q).length ≤ c.length := Nat.le_trans (List.length_filter_le _ _) (by simp; omega)
        by_cases hi : i < c.length
        · have hs : (c.take (i + 1)).filter q = (c.take i).filter q ++ (if q c[i] = true then [c[i]] else []) := by
            rw [List.take_add_one, List.getElem?_eq_getElem hi, List.filter_append]
            by_cases hq1 : q c[i] = true <;> simp [hq1]
          simp -dsimp [nrow, hi, fltT]
          refine ACall.of (uwants_c a (by omega) c[i]) [] 0 ?_
          simp -dsimp [fltT]
          refine ACall.of (uwants_c b (by omega) c[i]) [] 0 ?_
          simp -dsimp [fltT]
          have hc2 := hg (wnt a c[i]) (wnt b c[i])
          refine ACall.of hc2 [] 0 ?_
          rcases (Bool.eq_false_or_eq_true (K (wnt a c[i]) (wnt b c[i]))).symm with h | h
          · have hqv : q c[i] = false := by rw [hq, h]; rfl
            simp -dsimp [hok, h, fltT, wrap_i64 (n := (i : Int) + 1) (by omega) (by omega)]
            and_intros
            all_goals try first | rfl | omega | exact ⟨by kernel_rfl⟩
            exact ⟨⟨i + 1, by omega⟩, GS.to (by simp [ints, hs, hqv, nrow, fltT]), by simp; omega⟩
          · have hqv : q c[i] = true := by rw [hq, h]; rfl
            simp -dsimp [hok, h, fltT, wrap_i64 (n := (i : Int) + 1) (by omega) (by omega)]
            and_intros
            all_goals try first | rfl | omega | exact ⟨by kernel_rfl⟩
            exact ⟨⟨i + 1, by omega⟩, GS.to (by simp [ints, hs, hqv, nrow, fltT]), by simp; omega⟩
        · obtain rfl : i = c.length := by omega
          simp -dsimp [hi]
          refine Fin.box (.o 6) rfl ?_
          simp -dsimp
          refine Fin.of ?_
          rw [comb_no h0, hR]
          simp [fltT, ints, nrow]
    · obtain ⟨q, hq⟩ : ∃ q : Int → Bool, ∀ s, q s = (K (wnt a s) (wnt b s) != true) := ⟨_, fun _ => rfl⟩
      have hR : combR K a b = ⟨2, (Lib.compact ((a.s ++ b.s).mergeSort fun x y => decide (x ≤ y))).filter q⟩ := by
        rw [show q = _ from funext hq]; unfold combR srt; rw [hr]; rfl
      simp -dsimp [hok]
      refine ACall.of (concat_c a.s b.s (by omega) (by omega)) [] 1000 ?_
      simp -dsimp [ints]
      and_intros
      all_goals try first | omega | exact ⟨by kernel_rfl⟩
      refine ACall.inpl sort_i (a.s ++ b.s) ?_
      simp -dsimp
      and_intros
      all_goals try first | omega | exact ⟨by kernel_rfl⟩
      have hsl : ((a.s ++ b.s).mergeSort fun x y => decide (x ≤ y)).length = a.s.length + b.s.length := by rw [List.length_mergeSort, List.length_append]
      refine ACall.inpl compact_i ((a.s ++ b.s).mergeSort fun x y => decide (x ≤ y)) ?_
      have hcl := cpt_len ((a.s ++ b.s).mergeSort fun x y => decide (x ≤ y))
      simp -dsimp [cpt_take]
      and_intros
      all_goals try first | omega | exact ⟨by kernel_rfl⟩
      generalize (a.s ++ b.s).mergeSort (fun x y => decide (x ≤ y)) = c0 at hsl hcl hR ⊢
      generalize Lib.compact c0 = c at hcl hR ⊢
      refine ALoop.of [1000087, 1000075] (fun k => k == 0 || k == 1 || k == 2 || k == 3 || k == 4 || k == 6 || k == 7 || k == 8 || k == 9 || k == 10 || k == 11 || k == 13 || k == 21 || k == 33 || k == 44 || k == 45 || k == 46 || k == 47 || k == 59) (ι := { i : Nat // i ≤ c.length })
        (fun z => [(Pl.s 0, It.v (fltT a)), (Pl.s 1, It.v (fltT b)), (Pl.s 2, It.v (TV.clo g [])),
          (Pl.o 3, It.box [TV.d (D.int IntKind.i64 a.m), TV.d (ints a.s)]), (Pl.s 3, It.v (TV.ptr (Pl.o 3) 0)),
          (Pl.o 4, It.box [TV.d (D.int IntKind.i64 b.m), TV.d (ints b.s)]), (Pl.s 4, It.v (TV.ptr (Pl.o 4) 0)),
          (Pl.o 6, It.box [TV.d (D.int IntKind.i64 0), TV.c (Value.slice none 0 0)]), (Pl.s 6, It.v (TV.ptr (Pl.o 6) 0)), (Pl.s 7, It.v (TV.d (D.int IntKind.i64 0))),
          (Pl.s 9, It.v (TV.d (D.bool true))), (Pl.o 10, It.box [TV.d (D.int IntKind.i64 2), TV.oref 50 ((c.take z.1).filter q).length]), (Pl.s 10, It.v (TV.ptr (Pl.o 10) 0)),
          (Pl.o 50, It.row 3 1 (dd (nrow .i64 ((c.take z.1).filter q))) false),
          (Pl.s 44, It.v (TV.d (D.sl (nrow .i64 c)))), (Pl.s 45, It.v (TV.d (D.int IntKind.i64 c.length))), (Pl.s 46, It.v (TV.d (D.int IntKind.i64 z.1)))]) (fun z => c.length - z.1) ⟨0, by omega⟩ ?_ ?_
      · exact GS.ownB' (.o 10) 1 50 (cs := [TV.d (D.int IntKind.i64 2), TV.c (Value.slice none 0 0)]) 3 1 (by simp) (by simp) (by simp) (by simp) (by simp [fltT, ints, nrow])
      · rintro ⟨i, i1⟩
        have hfl : ((c.take i).filter q).length ≤ c.length := Nat.le_trans (List.length_filter_le _ _) (by simp; omega)
        by_cases hi : i < c.length
        · have hs : (c.take (i + 1)).filter q = (c.take i).filter q ++ (if q c[i] = true then [c[i]] else []) := by
            rw [List.take_add_one, List.getElem?_eq_getElem hi, List.filter_append]
            by_cases hq1 : q c[i] = true <;> simp [hq1]
          simp -dsimp [nrow, hi, fltT]
          refine ACall.of (uwants_c a (by omega) c[i]) [] 0 ?_
          simp -dsimp [fltT]
          refine ACall.of (uwants_c b (by omega) c[i]) [] 0 ?_
          simp -dsimp [fltT]
          have hc2 := hg (wnt a c[i]) (wnt b c[i])
          refine ACall.of hc2 [] 0 ?_
          rcases (Bool.eq_false_or_eq_true (K (wnt a c[i]) (wnt b c[i]))).symm with h | h
          · have hqv : q c[i] = true := by rw [hq, h]; rfl
            simp -dsimp [hok, h, fltT, wrap_i64 (n := (i : Int) + 1) (by omega) (by omega)]
            and_intros
            all_goals try first | rfl | omega | exact ⟨by kernel_rfl⟩
            exact ⟨⟨i + 1, by omega⟩, GS.to (by simp [ints, hs, hqv, nrow, fltT]), by simp; omega⟩
          · have hqv : q c[i] = false := by rw [hq, h]; rfl
            simp -dsimp [hok, h, fltT, wrap_i64 (n := (i : Int) + 1) (by omega) (by omega)]
            and_intros
            all_goals try first | rfl | omega | exact ⟨by kernel_rfl⟩
            exact ⟨⟨i + 1, by omega⟩, GS.to (by simp [ints, hs, hqv, nrow, fltT]), by simp; omega⟩
        · obtain rfl : i = c.length := by omega
          simp -dsimp [hi]
          refine Fin.box (.o 6) rfl ?_
          simp -dsimp
          refine Fin.of ?_
          rw [comb_no h0, hR]
          simp [fltT, ints, nrow]
  · simp -dsimp [h0]
    try refine ⟨?_, ⟨by kernel_rfl⟩⟩
    refine Fin.box (.o 6) rfl ?_
    simp -dsimp
    refine Fin.of ?_
    rw [comb_err h0]
    simp [fltT, ints, noF]
end Go.Proofs
