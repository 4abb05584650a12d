/-
  What functions of the program compute, stated as contracts over plain data; the conditions of each stand in its own statement.
-/
import Derived.Test.YteenclepbpajdaaH5
set_option linter.unusedSimpArgs false
set_option maxRecDepth 100000
set_option maxHeartbeats 2000000
namespace Go.Proofs
open Go Go.Tr

theorem known_any (p : Pn) (id : Int) : (p.es.any fun y => decide (y.id = id)) = knownB p id := by
  rw [Bool.eq_iff_iff]
  simp [knownB, List.find?_isSome]
theorem shl_bit {k : Int} (h : 0 ≤ k ∧ k < 64) : (1#64 <<< k.toNat) = bitB k := by
  rw [bitB, if_neg (by omega)]
  have : IntKind.u64.wrap k = k := by rw [wrap_emod]; omega
  rw [this]
theorem sets_c (p : Pn) (hp : p.es.length ≤ 1000) (ids : List Int) (hi : ids.length ≤ 100000) : Contract Try.prog 39 [planT p, .d (ints ids)] [] (setsT (setsR p ids)) [] [] := by
  refine contract_of Try.func39 rfl (fun E0 => ?_)
  refine awp.sound (g := .mk) (ow := []) (kp := (fun k => k == 0 || k == 1 || k == 2 || k == 4 || k == 5 || k == 6 || k == 7 || k == 9 || k == 10 || k == 11 || k == 13 || k == 16 || k == 18 || k == 19 || k == 20 || k == 35 || k == 39 || k == 40 || k == 41 || k == 42 || k == 43 || k == 67)) ?_
  rw [Try.ntmps39]
  simp -dsimp [planT]
  refine ACall.of (validPlan_c p hp) [] 0 ?_
  rcases (Bool.eq_false_or_eq_true (planB p)).symm with a1 | a1
  · simp -dsimp [a1, planT]
    refine Fin.view 4 ?_
    simp -dsimp
    refine Fin.of ?_
    simp [setsT, setsR, a1, sbs]
  · simp -dsimp [a1, planT, ints]
    refine ALoop.of [] (fun k => k == 0 || k == 1 || k == 2 || k == 4 || k == 5 || k == 6 || k == 7 || k == 9 || k == 10 || k == 11 || k == 13 || k == 16 || k == 18 || k == 19 || k == 20 || k == 35 || k == 39 || k == 40 || k == 41 || k == 42 || k == 43 || k == 67) (ι := { i : Nat // i ≤ ids.length ∧ ∀ a, 0 < a → a < i → ids.getD (a - 1) 0 < ids.getD a 0 })
      (fun z => [(Pl.s 0, It.v (TV.agg [TV.d (D.int IntKind.i64 p.subd), TV.d (D.int IntKind.i64 p.len), TV.d (D.sl (eds p.es))])), (Pl.s 1, It.v (TV.d (ints ids))),
        (Pl.o 2, It.box [TV.d (D.int IntKind.i64 p.subd), TV.d (D.int IntKind.i64 p.len), TV.d (D.sl (eds p.es))]),
        (Pl.s 2, It.v (TV.ptr (Pl.o 2) 0)), (Pl.s 4, It.v (TV.c (Value.slice none 0 0))), (Pl.s 5, It.v (TV.d (D.int IntKind.i64 0))), (Pl.s 18, It.v (TV.d (D.int IntKind.i64 ids.length))), (Pl.s 19, It.v (TV.d (D.int IntKind.i64 z.1)))])
      (fun z => ids.length - z.1) ⟨0, by omega, fun a h => by omega⟩ ?_ ?_
    · exact GS.to (by simp [ints])
    · rintro ⟨i, i1, i2⟩
      by_cases hi : i < ids.length
      · by_cases h0 : 0 < i
        · have hi1 : i - 1 < ids.length := by omega
          have g1 : ids.getD i 0 = ids[i] := by simp [List.getD, hi]
          have g2 : ids.getD (i - 1) 0 = ids[i - 1] := by simp [List.getD, hi1]
          have b5 : (1 : Int) ≤ i := by omega
          have b6 : (i : Int) - 1 < ids.length := by omega
          by_cases h : ids[i] ≤ ids[i - 1]
          · simp -dsimp [ints, hi, hi1, h0, b5, b6, h, wrap_i64 (n := (i : Int) - 1) (by omega) (by omega), wrap_i64 (n := (i : Int) + 1) (by omega) (by omega)]
            refine ⟨?_, ⟨by kernel_rfl⟩⟩
            refine Fin.view 4 ?_
            simp -dsimp
            refine Fin.of ?_
            have hasc : ascB ids = false := by
              simp only [ascB, decide_eq_false_iff_not]
              exact fun hc => by have := hc i (by omega) hi; rw [g1, g2] at this; omega
            simp [setsT, setsR, a1, hasc, sbs]
          · simp -dsimp [ints, hi, hi1, h0, b5, b6, h, wrap_i64 (n := (i : Int) - 1) (by omega) (by omega), wrap_i64 (n := (i : Int) + 1) (by omega) (by omega)]
            refine ⟨?_, ⟨by kernel_rfl⟩⟩
            exact ⟨⟨i + 1, by omega, fun a h0 ha => by
              by_cases e : a = i
              · subst e; rw [g1, g2]; omega
              · exact i2 a h0 (by omega)⟩, GS.to (by simp [ints]), by simp; omega⟩
        · obtain rfl : i = 0 := by omega
          simp -dsimp [ints, hi, wrap_i64 (n := 1) (by omega) (by omega)]
          try refine ⟨?_, ⟨by kernel_rfl⟩⟩
          exact ⟨⟨1, by omega, fun a h0 ha => by omega⟩, GS.to (by simp [ints]), by simp; omega⟩
      · have hasc : ascB ids = true := by
          simp only [ascB, decide_eq_true_eq]
          exact fun a h0 ha => i2 a h0 (by omega)
        simp -dsimp [ints, hi]
        refine ACall.of (contains_i_c ids (by omega) 60 [.int .i64 p.subd, .int .i64 p.len, .sl (eds p.es)] (fun id => !(p.es.any fun y => decide (y.id = id))) (sets1_c p hp) (by simp)) [.o 2] 0 ?_
        rcases (Bool.eq_false_or_eq_true (ids.any (fun id => !(p.es.any fun y => decide (y.id = id))))).symm with a2 | a2
        · have hkn : ids.all (knownB p) = true := by
            rw [List.all_eq_true]
            intro x hx
            rw [List.any_eq_false] at a2
            have := a2 x hx
            rw [known_any] at this
            simpa using this
          simp -dsimp [a2, intRows]
          refine ALoop.of [] (fun k => k == 0 || k == 1 || k == 2 || k == 4 || k == 5 || k == 6 || k == 7 || k == 9 || k == 10 || k == 11 || k == 13 || k == 16 || k == 18 || k == 19 || k == 20 || k == 35 || k == 39 || k == 40 || k == 41 || k == 42 || k == 43 || k == 67) (ι := { z : Nat × List Sb // z.1 ≤ ids.length ∧ z.2.length ≤ z.1 ∧ sbAll p.len ids [] = sbAll p.len (ids.drop z.1) z.2 })
            (fun z => [(Pl.s 0, It.v (TV.agg [TV.d (D.int IntKind.i64 p.subd), TV.d (D.int IntKind.i64 p.len), TV.d (D.sl (eds p.es))])), (Pl.s 1, It.v (TV.d (ints ids))),
              (Pl.o 2, It.box [TV.d (D.int IntKind.i64 p.subd), TV.d (D.int IntKind.i64 p.len), TV.d (D.sl (eds p.es))]),
              (Pl.s 2, It.v (TV.ptr (Pl.o 2) 0)), (Pl.s 4, It.v (TV.c (Value.slice none 0 0))), (Pl.s 5, It.v (TV.d (D.int IntKind.i64 0))), (Pl.s 7, It.v (TV.oref 7 z.1.2.length)), (Pl.o 7, .row 89 2 (dd (sbs z.1.2)) false),
              (Pl.s 40, It.v (TV.d (ints ids))), (Pl.s 41, It.v (TV.d (D.int IntKind.i64 ids.length))), (Pl.s 42, It.v (TV.d (D.int IntKind.i64 z.1.1)))])
            (fun z => ids.length - z.1.1) ⟨(0, []), by simp, by simp, rfl⟩ ?_ ?_
          · exact GS.own' (k := 7) 89 2 (by simp) (by simp) (by simp [ints, sbs])
          · rintro ⟨⟨i, l⟩, q1, q2, q3⟩
            simp only at q1 q2 q3
            by_cases hq : i < ids.length
            · have hd : ids.drop i = ids[i] :: ids.drop (i + 1) := List.drop_eq_getElem_cons _
              have hB := plB ids[i] p.len
              have hsh := shl_bit ⟨hB.2.2.1, hB.2.2.2⟩
              have hsg : 0 ≤ plBit ids[i] p.len := hB.2.2.1
              simp -dsimp [ints, hq, wrap_i64 (n := (i : Int) + 1) (by omega) (by omega)]
              refine ACall.of (place10_c2 ids[i] p.len) [] 0 ?_
              rcases List.eq_nil_or_concat l with rfl | ⟨pre, y, rfl⟩
              · simp -dsimp [placeT, planT, sbs, hsg, wrap_i64 (n := 0) (by omega) (by omega), wrap_i64 (n := (i : Int) + 1) (by omega) (by omega)]
                refine ⟨?_, ⟨by kernel_rfl⟩⟩
                exact ⟨⟨(i + 1, [⟨plSet ids[i] p.len, bitB (plBit ids[i] p.len)⟩]), by dsimp only; omega, by simp, by dsimp only; rw [q3, hd, sbAll, sbPut_nil]⟩, GS.to (by simp [ints, sbs, Sb.cs, bv, hsh]), by simp; omega⟩
              · rw [List.concat_eq_append] at *
                have hlen : pre.length + 1 ≤ i := by simpa using q2
                have d1 : ∀ x, (dd (List.map Sb.cs pre) ++ [x])[pre.length]? = some x := fun x => by simp [dd]
                have d2 : ∀ x y, (dd (List.map Sb.cs pre) ++ [x]).set pre.length y = dd (List.map Sb.cs pre) ++ [y] := fun x y => by simp [dd, List.set_append_right]
                have d3 : ∀ x y, (dd (List.map Sb.cs pre) ++ [x, y])[pre.length + 1]? = some y := fun x y => by simp [dd, List.getElem?_append_right]
                have d4 : ∀ x y z, (dd (List.map Sb.cs pre) ++ [x, y]).set (pre.length + 1) z = dd (List.map Sb.cs pre) ++ [x, z] := fun x y z => by simp [dd, List.set_append_right]
                have n0 : ¬ (pre.length : Int) + 1 = 0 := by omega
                by_cases hs : y.set = plSet ids[i] p.len
                · simp -dsimp [placeT, hs, sbs, Sb.cs, bv, hsg, n0, d1, d2, d3, d4, wrap_i64 (n := (pre.length : Int)) (by omega) (by omega), wrap_i64 (n := (pre.length : Int) + 1) (by omega) (by omega), wrap_i64 (n := (i : Int) + 1) (by omega) (by omega)]
                  and_intros
                  all_goals try first | omega | exact ⟨by kernel_rfl⟩
                  exact ⟨⟨(i + 1, pre ++ [⟨y.set, y.bits ||| bitB (plBit ids[i] p.len)⟩]), by dsimp only; omega, by simp; omega, by dsimp only; rw [q3, hd, sbAll, ← hs, sbPut_same]⟩, GS.to (by simp [ints, sbs, Sb.cs, bv, hs, hsh]), by simp; omega⟩
                · simp -dsimp [placeT, hs, sbs, Sb.cs, bv, hsg, n0, d1, d2, d3, d4, wrap_i64 (n := (pre.length : Int)) (by omega) (by omega), wrap_i64 (n := (pre.length : Int) + 1) (by omega) (by omega), wrap_i64 (n := (i : Int) + 1) (by omega) (by omega)]
                  and_intros
                  all_goals try first | omega | exact ⟨by kernel_rfl⟩
                  exact ⟨⟨(i + 1, pre ++ [y] ++ [⟨plSet ids[i] p.len, bitB (plBit ids[i] p.len)⟩]), by dsimp only; omega, by simp; omega, by dsimp only; rw [q3, hd, sbAll, sbPut_new _ _ hs]⟩, GS.to (by simp [ints, sbs, Sb.cs, bv, hsh]), by simp; omega⟩
            · simp -dsimp [ints, hq]
              refine Fin.view 4 ?_
              simp -dsimp
              refine Fin.of ?_
              have hX : sbAll p.len ids [] = l := by rw [q3, List.drop_eq_nil_of_le (by omega)]; rfl
              simp [setsT, setsR, a1, hasc, hkn, hX]
        · have hkn : ids.all (knownB p) = false := by
            rw [List.any_eq_true] at a2
            obtain ⟨x, hx, he⟩ := a2
            rw [known_any] at he
            rw [List.all_eq_false]
            exact ⟨x, hx, by simpa using he⟩
          simp -dsimp [a2, intRows]
          refine Fin.view 4 ?_
          simp -dsimp
          refine Fin.of ?_
          simp [setsT, setsR, a1, hasc, hkn, sbs]
end Go.Proofs
