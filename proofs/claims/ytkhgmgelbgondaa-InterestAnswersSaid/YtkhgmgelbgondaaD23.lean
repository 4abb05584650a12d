/-
  What functions of the program compute, stated as contracts over plain data; the conditions of each stand in its own statement.
-/
import Derived.Test.YtkhgmgelbgondaaD22
set_option linter.unusedSimpArgs false
set_option maxRecDepth 100000
set_option maxHeartbeats 8000000
namespace Go.Proofs
open Go Go.Tr

theorem gn_aux (c : Prop) [Decidable c] (l : List Wnt) (g : Int) (f : Flt) : l ++ tl g (if c then none else some f) = l ++ (if c then [] else [⟨g, f⟩]) := by
  split <;> rfl
theorem rchanges24_c (a b : List Wnt) (ha : a.length ≤ 1000000) (hb : b.length ≤ 1000000) (hfa : ∀ x ∈ a, x.f.s.length ≤ 9223372036854775807) (hfb : ∀ x ∈ b, x.f.s.length ≤ 9223372036854775807) :
    Contract Try.prog 32 [.d (wntD a), .d (wntD b)] [] (.tup [.d (wntD (chgR a b).1), .d (.int .i64 (chgR a b).2)]) [] [] := by
  have hva := rvalidate24_c a ha hfa
  have hvb := rvalidate24_c b hb hfb
  refine contract_of Try.func32 rfl (fun E0 => ?_)
  refine awp.sound (g := .mk) (ow := []) (kp := (fun k => k == 0 || k == 1 || k == 4 || k == 5 || k == 6 || k == 7 || k == 8 || k == 9 || k == 10 || k == 14 || k == 19 || k == 22 || k == 33 || k == 42)) ?_
  rw [Try.ntmps32]
  simp -dsimp
  refine ACall.of hva [] 0 ?_
  by_cases h1 : vldW a false = 0
  · simp -dsimp [h1]
    refine ACall.of hvb [] 0 ?_
    by_cases h2 : vldW b false = 0
    · simp -dsimp [h2]
      replace hfa : ∀ x ∈ a, x.f.s.length ≤ 1000000 := fun x hx => by have := ok_len ((vldW_zero h1).2.2.1 x hx); omega
      replace hfb : ∀ x ∈ b, x.f.s.length ≤ 1000000 := fun x hx => by have := ok_len ((vldW_zero h2).2.2.1 x hx); omega
      have hvl := fun n => genL_len (rvC a b) n
      refine ALoop.of [] (fun k => k == 0 || k == 1 || k == 4 || k == 5 || k == 6 || k == 7 || k == 8 || k == 9 || k == 10 || k == 14 || k == 19 || k == 22 || k == 33 || k == 42) (ι := { n : Nat // n ≤ 99 })
        (fun z => [(Pl.s 0, It.v (TV.d (wntD a))), (Pl.s 1, It.v (TV.d (wntD b))), (Pl.s 4, It.v (TV.c (Value.slice none 0 0))), (Pl.s 5, It.v (TV.d (D.int IntKind.i64 0))),
          (Pl.s 8, It.v (TV.oref 8 (genL (rvC a b) z.1).length)), (Pl.o 8, It.row 53 3 (dd ((genL (rvC a b) z.1).map wntC)) false), (Pl.s 9, It.v (TV.d (D.int IntKind.i64 ((z.1 : Int) + 1))))])
        (fun z => 99 - z.1) ⟨0, by omega⟩ ?_ ?_
      · exact GS.own' (k := 8) 53 3 (by simp) (by simp) (by simp [genL])
      · rintro ⟨n, n1⟩
        have hll := hvl n
        by_cases hn : n < 99
        · have hnz : (n : Int) + 1 ≤ 99 := by omega
          have w1 := wrap_i64 (n := (n : Int) + 1 + 1) (by omega) (by omega)
          have hb1 := rfind24_c b hb ((n : Int) + 1)
          have ha1 := rfind24_c a ha ((n : Int) + 1)
          have hs1 := rsame_c (fnd b ((n : Int) + 1)) (fnd a ((n : Int) + 1)) (fnd_len hfb _)
          rw [samF] at hs1
          have gn : genL (rvC a b) (n + 1) = genL (rvC a b) n ++ (if fnd b ((n : Int) + 1) = fnd a ((n : Int) + 1) then [] else [⟨(n : Int) + 1, fnd b ((n : Int) + 1)⟩]) := by
            rw [genL]; exact gn_aux _ _ _ _
          generalize fnd b ((n : Int) + 1) = x at hb1 hs1 gn
          generalize fnd a ((n : Int) + 1) = y at ha1 hs1 gn
          simp only [fltT] at hb1 ha1 hs1
          simp -dsimp [hnz]
          refine ACall.of hb1 [] 0 ?_
          simp -dsimp
          refine ACall.of ha1 [] 0 ?_
          simp -dsimp
          refine ACall.of hs1 [] 0 ?_
          by_cases e : x = y
          · rw [if_pos e, List.append_nil] at gn
            rw [decide_eq_true e]
            simp -dsimp [w1]
            and_intros
            all_goals try first | rfl | omega | exact ⟨by kernel_rfl⟩
            exact ⟨⟨n + 1, by omega⟩, GS.to (by simp [gn]), by simp; omega⟩
          · rw [if_neg e] at gn
            rw [decide_eq_false e]
            simp -dsimp [w1]
            and_intros
            all_goals try first | rfl | omega | exact ⟨by kernel_rfl⟩
            exact ⟨⟨n + 1, by omega⟩, GS.to (by simp [gn, wntC]), by simp; omega⟩
        · have hnz : ¬ (n : Int) + 1 ≤ 99 := by omega
          obtain rfl : n = 99 := by omega
          have hr := chg_ref h1 h2
          by_cases h3 : 32 < (genL (rvC a b) 99).length
          · have h3z : (32 : Int) < (genL (rvC a b) 99).length := by omega
            simp -dsimp [hnz, h3z]
            refine Fin.view 4 ?_
            simp -dsimp
            refine Fin.of ?_
            rw [hr] at h3
            simp [chgR, limW, h1, h2, wntD, mrg_chg, mrg_app, h3]
          · have h3z : ¬ (32 : Int) < (genL (rvC a b) 99).length := by omega
            simp -dsimp [hnz, h3z]
            refine Fin.view 4 ?_
            simp -dsimp
            refine Fin.of ?_
            rw [hr] at h3 ⊢
            simp [chgR, limW, h1, h2, wntD, mrg_chg, mrg_app, h3]
    · simp -dsimp [h2]
      and_intros
      all_goals try first | rfl | omega | exact ⟨by kernel_rfl⟩
      refine Fin.view 4 ?_
      simp -dsimp
      refine Fin.of ?_
      simp [chgR, limW, h1, h2, wntD]
  · simp -dsimp [h1]
    and_intros
    all_goals try first | rfl | omega | exact ⟨by kernel_rfl⟩
    refine Fin.view 4 ?_
    simp -dsimp
    refine Fin.of ?_
    simp [chgR, limW, h1, wntD]
theorem rapply24_c (a b : List Wnt) (ha : a.length ≤ 1000000) (hb : b.length ≤ 1000000) (hfa : ∀ x ∈ a, x.f.s.length ≤ 9223372036854775807) (hfb : ∀ x ∈ b, x.f.s.length ≤ 9223372036854775807) :
    Contract Try.prog 33 [.d (wntD a), .d (wntD b)] [] (.tup [.d (wntD (appR a b).1), .d (.int .i64 (appR a b).2)]) [] [] := by
  have hva := rvalidate24_c a ha hfa
  have hvb := rcheck24_cL b true hb hfb
  refine contract_of Try.func33 rfl (fun E0 => ?_)
  refine awp.sound (g := .mk) (ow := []) (kp := (fun k => k == 0 || k == 1 || k == 4 || k == 5 || k == 6 || k == 7 || k == 8 || k == 9 || k == 10 || k == 14 || k == 19 || k == 22 || k == 30 || k == 37 || k == 46)) ?_
  rw [Try.ntmps33]
  simp -dsimp
  refine ACall.of hva [] 0 ?_
  by_cases h1 : vldW a false = 0
  · simp -dsimp [h1]
    refine ACall.of hvb [] 0 ?_
    by_cases h2 : vldW b true = 0
    · simp -dsimp [h2]
      replace hfa : ∀ x ∈ a, x.f.s.length ≤ 1000000 := fun x hx => by have := ok_len ((vldW_zero h1).2.2.1 x hx); omega
      replace hfb : ∀ x ∈ b, x.f.s.length ≤ 1000000 := fun x hx => by have := ok_len ((vldW_zero h2).2.2.1 x hx); omega
      have hvl := fun n => genL_len (rvA a b) n
      refine ALoop.of [] (fun k => k == 0 || k == 1 || k == 4 || k == 5 || k == 6 || k == 7 || k == 8 || k == 9 || k == 10 || k == 14 || k == 19 || k == 22 || k == 30 || k == 37 || k == 46) (ι := { n : Nat // n ≤ 99 })
        (fun z => [(Pl.s 0, It.v (TV.d (wntD a))), (Pl.s 1, It.v (TV.d (wntD b))), (Pl.s 4, It.v (TV.c (Value.slice none 0 0))), (Pl.s 5, It.v (TV.d (D.int IntKind.i64 0))),
          (Pl.s 8, It.v (TV.oref 8 (genL (rvA a b) z.1).length)), (Pl.o 8, It.row 53 3 (dd ((genL (rvA a b) z.1).map wntC)) false), (Pl.s 9, It.v (TV.d (D.int IntKind.i64 ((z.1 : Int) + 1))))])
        (fun z => 99 - z.1) ⟨0, by omega⟩ ?_ ?_
      · exact GS.own' (k := 8) 53 3 (by simp) (by simp) (by simp [genL])
      · rintro ⟨n, n1⟩
        have hll := hvl n
        by_cases hn : n < 99
        · have hnz : (n : Int) + 1 ≤ 99 := by omega
          have w1 := wrap_i64 (n := (n : Int) + 1 + 1) (by omega) (by omega)
          have hh1 := rhas_c b hb ((n : Int) + 1)
          have hb1 := rfind24_c b hb ((n : Int) + 1)
          have ha1 := rfind24_c a ha ((n : Int) + 1)
          have gn : genL (rvA a b) (n + 1) = genL (rvA a b) n ++ (if (if (opt b ((n : Int) + 1)).isSome = true then fnd b ((n : Int) + 1) else fnd a ((n : Int) + 1)) = nF then [] else [⟨(n : Int) + 1, if (opt b ((n : Int) + 1)).isSome = true then fnd b ((n : Int) + 1) else fnd a ((n : Int) + 1)⟩]) := by
            rw [genL]; exact gn_aux _ _ _ _
          have lx := fnd_len hfb ((n : Int) + 1)
          have ly := fnd_len hfa ((n : Int) + 1)
          have hN := nothing_c
          generalize fnd b ((n : Int) + 1) = x at hb1 gn lx
          generalize fnd a ((n : Int) + 1) = y at ha1 gn ly
          generalize (opt b ((n : Int) + 1)).isSome = h at hh1 gn
          simp only [fltT] at hb1 ha1 hN
          simp -dsimp [hnz]
          refine ACall.of ha1 [] 0 ?_
          simp -dsimp
          refine ACall.of hh1 [] 0 ?_
          cases h with
          | true =>
            simp only [if_true] at gn
            have hs1 := rsame_c x nF lx
            rw [samF] at hs1
            simp only [fltT] at hs1
            rw [show nF.m = 1 from rfl, show nF.s = [] from rfl] at hs1
            simp -dsimp
            refine ACall.of hb1 [] 0 ?_
            simp -dsimp
            refine ACall.of hN [] 0 ?_
            simp -dsimp
            refine ACall.of hs1 [] 0 ?_
            by_cases e : x = nF
            · rw [if_pos e, List.append_nil] at gn
              rw [decide_eq_true e]
              simp -dsimp [w1]
              and_intros
              all_goals try first | rfl | omega | exact ⟨by kernel_rfl⟩
              exact ⟨⟨n + 1, by omega⟩, GS.to (by simp [gn]), by simp; omega⟩
            · rw [if_neg e] at gn
              rw [decide_eq_false e]
              simp -dsimp [w1]
              and_intros
              all_goals try first | rfl | omega | exact ⟨by kernel_rfl⟩
              exact ⟨⟨n + 1, by omega⟩, GS.to (by simp [gn, wntC]), by simp; omega⟩
          | false =>
            simp only [Bool.false_eq_true, if_false] at gn
            have hs1 := rsame_c y nF ly
            rw [samF] at hs1
            simp only [fltT] at hs1
            rw [show nF.m = 1 from rfl, show nF.s = [] from rfl] at hs1
            simp -dsimp
            refine ACall.of hN [] 0 ?_
            simp -dsimp
            refine ACall.of hs1 [] 0 ?_
            by_cases e : y = nF
            · rw [if_pos e, List.append_nil] at gn
              rw [decide_eq_true e]
              simp -dsimp [w1]
              and_intros
              all_goals try first | rfl | omega | exact ⟨by kernel_rfl⟩
              exact ⟨⟨n + 1, by omega⟩, GS.to (by simp [gn]), by simp; omega⟩
            · rw [if_neg e] at gn
              rw [decide_eq_false e]
              simp -dsimp [w1]
              and_intros
              all_goals try first | rfl | omega | exact ⟨by kernel_rfl⟩
              exact ⟨⟨n + 1, by omega⟩, GS.to (by simp [gn, wntC]), by simp; omega⟩
        · have hnz : ¬ (n : Int) + 1 ≤ 99 := by omega
          obtain rfl : n = 99 := by omega
          have hr := app_ref h1 h2
          by_cases h3 : 32 < (genL (rvA a b) 99).length
          · have h3z : (32 : Int) < (genL (rvA a b) 99).length := by omega
            simp -dsimp [hnz, h3z]
            refine Fin.view 4 ?_
            simp -dsimp
            refine Fin.of ?_
            rw [hr] at h3
            simp [appR, limW, h1, h2, wntD, mrg_chg, mrg_app, h3]
          · have h3z : ¬ (32 : Int) < (genL (rvA a b) 99).length := by omega
            simp -dsimp [hnz, h3z]
            refine Fin.view 4 ?_
            simp -dsimp
            refine Fin.of ?_
            rw [hr] at h3 ⊢
            simp [appR, limW, h1, h2, wntD, mrg_chg, mrg_app, h3]
    · simp -dsimp [h2]
      and_intros
      all_goals try first | rfl | omega | exact ⟨by kernel_rfl⟩
      refine Fin.view 4 ?_
      simp -dsimp
      refine Fin.of ?_
      simp [appR, limW, h1, h2, wntD]
  · simp -dsimp [h1]
    and_intros
    all_goals try first | rfl | omega | exact ⟨by kernel_rfl⟩
    refine Fin.view 4 ?_
    simp -dsimp
    refine Fin.of ?_
    simp [appR, limW, h1, wntD]
end Go.Proofs
