/-
  What functions of the program compute, stated as contracts over plain data; the conditions of each stand in its own statement.
-/
import Derived.Test.YteenclepbpajdaaH4
set_option linter.unusedSimpArgs false
set_option maxRecDepth 100000
set_option maxHeartbeats 2000000
namespace Go.Proofs
open Go Go.Tr

theorem eds_take (l : List Ed) (i : Nat) : (eds l).take i = eds (l.take i) := by simp [eds]
theorem validPlan_c (p : Pn) (hp : p.es.length ≤ 1000) : Contract Try.prog 58 [planT p] [] (.d (.bool (planB p))) [] [] := by
  refine contract_of Try.func58 rfl (fun E0 => ?_)
  refine awp.sound (g := .mk) (ow := []) (kp := (fun k => k == 0 || k == 1 || k == 2 || k == 3 || k == 4 || k == 5 || k == 32 || k == 34 || k == 35 || k == 36 || k == 37 || k == 75)) ?_
  rw [Try.ntmps58]
  simp -dsimp [planT]
  refine ACall.of (in10_c p.subd 0 7) [] 0 ?_
  rcases (Bool.eq_false_or_eq_true (inB p.subd 0 7)).symm with a1 | a1
  · simp -dsimp [a1]
    refine Fin.of ?_
    simp
    exact planB_base (by simp [baseB, a1])
  · simp -dsimp [a1]
    refine ACall.of (validLength_c2 p.len) [] 0 ?_
    rcases (Bool.eq_false_or_eq_true (validLen p.len)).symm with a2 | a2
    · by_cases a3 : p.len = 0
      · by_cases a4 : p.es.length = 0
        · have hb : baseB p = true := by simp [baseB, a1, a2, a3, a4, show validLen 0 = false from rfl]
          simp -dsimp [a1, a2, a3, a4, show validLen 0 = false from rfl]
          refine ALoop.of [] (fun k => k == 0 || k == 1 || k == 2 || k == 3 || k == 4 || k == 5 || k == 32 || k == 34 || k == 35 || k == 36 || k == 37 || k == 75) (ι := Unit)
            (fun z => [(Pl.s 0, It.v (TV.agg [TV.d (D.int IntKind.i64 p.subd), TV.d (D.int IntKind.i64 p.len), TV.d (D.sl (eds p.es))])), (Pl.o 1, It.box [TV.d (D.int IntKind.i64 p.subd), TV.d (D.int IntKind.i64 p.len), TV.d (D.sl (eds p.es))]),
              (Pl.s 1, It.v (TV.ptr (Pl.o 1) 0)), (Pl.s 2, It.v (TV.d (D.bool false))), (Pl.s 34, It.v (TV.d (D.sl (eds p.es)))), (Pl.s 35, It.v (TV.d (D.int IntKind.i64 0))), (Pl.s 36, It.v (TV.d (D.int IntKind.i64 0)))])
            (fun z => 0) () ?_ ?_
          · exact GS.to (by simp [a3, a4])
          · rintro ⟨⟩
            simp -dsimp [a4]
            refine Fin.of ?_
            simp
            exact planB_ok hb (fun i hi => by omega) (fun i j hj hi => by omega)
        · have a5 : 0 < p.es.length := by omega
          simp -dsimp [a1, a2, a3, a4, a5, show validLen 0 = false from rfl]
          refine Fin.of ?_
          simp
          exact planB_base (by simp [baseB, a1, a2, a3, a4, show validLen 0 = false from rfl])
      · simp -dsimp [a1, a2, a3]
        refine Fin.of ?_
        simp
        exact planB_base (by simp [baseB, a1, a2, a3])
    · by_cases a6 : p.es.length ≤ 24
      · have a7 : ¬ (24 : Int) < p.es.length := by omega
        have hb : baseB p = true := by simp [baseB, a1, a2, a6]
        simp -dsimp [a1, a2, a7]
        refine ALoop.of [] (fun k => k == 0 || k == 1 || k == 2 || k == 3 || k == 4 || k == 5 || k == 32 || k == 34 || k == 35 || k == 36 || k == 37 || k == 75) (ι := { i : Nat // i ≤ p.es.length ∧ (∀ a, a < i → edB p.es a = true) ∧ ∀ a b, b < a → a < i → grt p.es a ≠ grt p.es b })
          (fun z => [(Pl.s 0, It.v (TV.agg [TV.d (D.int IntKind.i64 p.subd), TV.d (D.int IntKind.i64 p.len), TV.d (D.sl (eds p.es))])), (Pl.o 1, It.box [TV.d (D.int IntKind.i64 p.subd), TV.d (D.int IntKind.i64 p.len), TV.d (D.sl (eds p.es))]),
            (Pl.s 1, It.v (TV.ptr (Pl.o 1) 0)), (Pl.s 2, It.v (TV.d (D.bool false))), (Pl.s 34, It.v (TV.d (D.sl (eds p.es)))), (Pl.s 35, It.v (TV.d (D.int IntKind.i64 p.es.length))), (Pl.s 36, It.v (TV.d (D.int IntKind.i64 z.1)))])
          (fun z => p.es.length - z.1) ⟨0, by omega, fun a h => by omega, fun a b _ h => by omega⟩ ?_ ?_
        · exact GS.to (by simp)
        · rintro ⟨i, i1, i2, i3⟩
          by_cases hi : i < p.es.length
          · obtain ⟨x, hx⟩ : ∃ x, p.es[i]? = some x := ⟨p.es[i], List.getElem?_eq_getElem hi⟩
            have gx : gid p.es i = x.id ∧ grt p.es i = x.r := by simp [gid, grt, List.getD, hx]
            simp -dsimp [hi, eds_get' hx, Ed.cs, eds_take, wrap_i64 (n := (i : Int) + 1) (by omega) (by omega)]
            refine ⟨i1, ?_, ?_⟩
            · intro e he
              obtain ⟨w, _, rfl⟩ := List.mem_map.1 he
              rfl
            refine ACall.of (contains_e_c (p.es.take i) (by simp; omega) 81 x.cs (fun y => decide (y.r = x.r)) (vp1_c x) (by simp)) [.o 4] 0 ?_
            simp -dsimp [Ed.cs]
            refine ACall.of (in10_c x.id 1 256) [] 0 ?_
            rcases (Bool.eq_false_or_eq_true (inB x.id 1 256)).symm with b1 | b1
            · simp -dsimp [b1]
              try refine ⟨?_, ⟨by kernel_rfl⟩⟩
              refine Fin.of ?_
              simp
              exact planB_ed hi (by simp [edB, gx, b1])
            · simp -dsimp [b1]
              refine ACall.of (in10_c x.r 1 99) [] 0 ?_
              rcases (Bool.eq_false_or_eq_true (inB x.r 1 99)).symm with b2 | b2
              · simp -dsimp [b1, b2]
                try refine ⟨?_, ⟨by kernel_rfl⟩⟩
                refine Fin.of ?_
                simp
                exact planB_ed hi (by simp [edB, gx, b1, b2])
              · rcases (Bool.eq_false_or_eq_true ((p.es.take i).any fun y => decide (y.r = x.r))).symm with b8 | b8
                · have hne : ∀ b, b < i → grt p.es i ≠ grt p.es b := fun b hb => by
                    rw [List.any_eq_false] at b8
                    obtain ⟨y, hy⟩ : ∃ y, p.es[b]? = some y := ⟨p.es[b], List.getElem?_eq_getElem (by omega)⟩
                    have := b8 y (by
                      refine List.mem_of_getElem? (i := b) ?_
                      rw [List.getElem?_take, if_pos hb]; exact hy)
                    have gb : grt p.es b = y.r := by simp [grt, List.getD, hy]
                    rw [gx.2, gb]
                    intro h; rw [h] at this; simp at this
                  by_cases b3 : 0 < i
                  · obtain ⟨y, hy⟩ : ∃ y, p.es[i - 1]? = some y := ⟨p.es[i - 1], List.getElem?_eq_getElem (by omega)⟩
                    have gy : gid p.es (i - 1) = y.id := by simp [gid, List.getD, hy]
                    have b5 : (1 : Int) ≤ i := by omega
                    have b6 : (i : Int) - 1 < p.es.length := by omega
                    have b7 : i ≠ 0 := by omega
                    by_cases b4 : x.id ≤ y.id
                    · simp -dsimp [b1, b2, b8, b3, b4, b5, b6, eds_get hy, Ed.cs, wrap_i64 (n := (i : Int) - 1) (by omega) (by omega)]
                      refine ⟨?_, ⟨by kernel_rfl⟩⟩
                      refine Fin.of ?_
                      simp
                      exact planB_ed hi (by simp [edB, gx, gy, b1, b2, b7] <;> omega)
                    · simp -dsimp [b1, b2, b8, b3, b4, b5, b6, eds_get hy, Ed.cs, wrap_i64 (n := (i : Int) - 1) (by omega) (by omega), wrap_i64 (n := (i : Int) + 1) (by omega) (by omega)]
                      try refine ⟨?_, ⟨by kernel_rfl⟩⟩
                      exact ⟨⟨i + 1, by omega, fun a ha => by
                        by_cases e : a = i
                        · subst e; simp [edB, gx, gy, b1, b2] <;> omega
                        · exact i2 a (by omega), fun a b h1 h2 => by
                        by_cases e : a = i
                        · subst e; exact hne b h1
                        · exact i3 a b h1 (by omega)⟩, GS.to (by simp), by simp; omega⟩
                  · obtain rfl : i = 0 := by omega
                    simp -dsimp [b1, b2, b8, wrap_i64 (n := 1) (by omega) (by omega)]
                    try refine ⟨?_, ⟨by kernel_rfl⟩⟩
                    exact ⟨⟨1, by omega, fun a ha => by
                      obtain rfl : a = 0 := by omega
                      simp [edB, gx, b1, b2], fun a b h1 h2 => by omega⟩, GS.to (by simp), by simp; omega⟩
                · simp -dsimp [b1, b2, b8]
                  try refine ⟨?_, ⟨by kernel_rfl⟩⟩
                  refine Fin.of ?_
                  simp
                  rw [List.any_eq_true] at b8
                  obtain ⟨y, hy, he⟩ := b8
                  obtain ⟨b, hb⟩ := List.getElem?_of_mem hy
                  have hbi : b < i := by have := (List.getElem?_eq_some_iff.1 hb).1; simp at this; omega
                  rw [List.getElem?_take, if_pos hbi] at hb
                  have gb : grt p.es b = y.r := by simp [grt, List.getD, hb]
                  exact planB_rt hbi hi (by rw [gx.2, gb]; simp at he; exact he.symm)
          · simp -dsimp [hi]
            refine Fin.of ?_
            simp
            exact planB_ok hb (fun a ha => i2 a (by omega)) (fun a b h1 h2 => i3 a b h1 (by omega))
      · have a7 : (24 : Int) < p.es.length := by omega
        simp -dsimp [a1, a2, a7]
        refine Fin.of ?_
        simp
        exact planB_base (by simp [baseB, a1, a2, a6])
end Go.Proofs
