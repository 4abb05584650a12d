/-
  What functions of the program compute, stated as contracts over plain data; the conditions of each stand in its own statement.
-/
import Derived.Test.YtjgeggdefiejbaaGreatDoorM34
import Derived.Test.YtjgeggdefiejbaaGreatDoorM32
set_option linter.unusedSimpArgs false
set_option maxRecDepth 100000
set_option maxHeartbeats 8000000
namespace Go.Proofs
open Go Go.Tr
theorem any_take {q : List Int → Bool} {P : List (List Int)} {k : Nat} {y : List Int} (h : P[k]? = some y) : (P.take (k + 1)).any q = ((P.take k).any q || q y) := by
 rw [List.take_add_one, h]; simp
theorem dist15_c (l : List Tb) (hl : SmL l) (r id : Int) : Contract Tryz.prog 47 [.d (.sl (tbs l)), .d (.int .i64 r), .d (.int .i64 id)] [] (.tup [.d (.int .i64 (dcnt (spathR l r id).1 (spathR l r id).1.length)), .d (.int .i64 (spathR l r id).2)]) [] [] := by
 have h1 := paths15_c l hl r id
 have h2 := spathR_len l r id
 have h4 := pgo_mem l r id 8 0 [] (by simp)
 have hn := hl.n
 change ∀ x ∈ (spathR l r id).1, _ at h4
 generalize spathR l r id = G at h1 h2 h4
 obtain ⟨G, e⟩ := G
 simp only at h2 h4
 simp only [ps] at h1
 refine contract_of Tryz.func47 rfl (fun E0 => ?_)
 refine awp.sound (g := .mk) (ow := []) (kp := (fun k => k==0||k==1||k==2||k==6||k==7||k==8||k==9||k==10||k==11||k==12||k==13||k==24||k==29||k==45)) ?_
 rw [Tryz.ntmps47]
 simp -dsimp
 try refine ⟨?_, ⟨by kernel_rfl⟩⟩
 refine ACall.of h1 [] 0 ?_
 simp -dsimp
 and_intros
 all_goals try first | omega | exact ⟨by kernel_rfl⟩
 refine ALoop.of [] (fun k => k==0||k==1||k==2||k==6||k==7||k==8||k==9||k==10||k==11||k==12||k==13||k==24||k==29||k==45) (ι := { i : Nat // i ≤ G.length })
  (fun z => [(Pl.s 8, It.v (TV.d (ps G))), (Pl.s 9, It.v (TV.d (D.int IntKind.i64 e))), (Pl.s 10, It.v (TV.d (D.int IntKind.i64 (dcnt G z.1)))), (Pl.s 11, It.v (TV.d (D.int IntKind.i64 z.1)))])
  (fun z => G.length - z.1) ⟨0, by omega⟩ ?_ ?_
 ·exact GS.to (by simp [ps, dcnt])
 ·rintro ⟨i, i1⟩
  by_cases hi : i < G.length
  ·have hiz : (i : Int) < G.length := by omega
   have hg : G[i]? = some G[i] := List.getElem?_eq_getElem hi
   have hgl := h4 G[i] (List.getElem_mem hi)
   generalize G[i] = p at hg hgl
   have hgd : G.getD i [] = p := by rw [List.getD_eq_getElem?_getD, hg]; rfl
   have hds : dcnt G (i + 1) = dcnt G i + if ((G.take i).any fun q => decide (p = q)) then 0 else 1 := by rw [dcnt, hgd]
   have hdl := dcnt_le G i
   simp -dsimp [hiz, ps]
   and_intros
   all_goals try first | omega | exact ⟨by kernel_rfl⟩
   refine ALoop.of [] (fun k => k==0||k==1||k==2||k==6||k==7||k==8||k==9||k==10||k==11||k==12||k==13||k==24||k==29||k==45) (ι := { k : Nat // k ≤ i })
    (fun z => [(Pl.s 8, It.v (TV.d (ps G))), (Pl.s 9, It.v (TV.d (D.int IntKind.i64 e))), (Pl.s 10, It.v (TV.d (D.int IntKind.i64 (dcnt G i)))), (Pl.s 11, It.v (TV.d (D.int IntKind.i64 i))), (Pl.s 12, It.v (TV.d (D.bool (!((G.take z.1).any fun q => decide (p = q)))))), (Pl.s 13, It.v (TV.d (D.int IntKind.i64 z.1)))])
    (fun z => i - z.1) ⟨0, by omega⟩ ?_ ?_
   ·exact GS.to (by simp [ps])
   ·rintro ⟨k, k1⟩
    by_cases hk : k < i
    ·have hkz : (k : Int) < i := by omega
     have hg2 : G[k]? = some G[k] := List.getElem?_eq_getElem (by omega)
     generalize G[k] = q at hg2
     have ha := any_take (q := fun q => decide (p = q)) hg2
     have hi5 := ints04_c p q (by omega)
     simp only [ints] at hi5
     rcases (Bool.eq_false_or_eq_true ((G.take k).any fun q => decide (p = q))).symm with hb | hb
     ·rw [hb, Bool.false_or] at ha
      simp -dsimp [hkz, hg, hg2, ps, hb, ints, wrap_i64 (n := (k : Int) + 1) (by omega) (by omega)]
      and_intros
      all_goals try first | omega | exact ⟨by kernel_rfl⟩
      refine ACall.of hi5 [] 0 ?_
      simp -dsimp [wrap_i64 (n := (k : Int) + 1) (by omega) (by omega)]
      and_intros
      all_goals try first | omega | exact ⟨by kernel_rfl⟩
      exact ⟨⟨k + 1, by omega⟩, GS.to (by simp [ha, ps, ints]), by simp; omega⟩
     ·rw [hb, Bool.true_or] at ha
      simp -dsimp [hkz, hg, hg2, ps, hb, ints, wrap_i64 (n := (k : Int) + 1) (by omega) (by omega)]
      and_intros
      all_goals try first | omega | exact ⟨by kernel_rfl⟩
      exact ⟨⟨k + 1, by omega⟩, GS.to (by simp [ha, ps, ints]), by simp; omega⟩
    ·have hkz : ¬ (k : Int) < i := by omega
     obtain rfl : k = i := by omega
     rcases (Bool.eq_false_or_eq_true ((G.take k).any fun q => decide (p = q))).symm with hb | hb
     ·rw [hb] at hds
      simp -dsimp [hkz, hb, wrap_i64 (n := (k : Int) + 1) (by omega) (by omega), wrap_i64 (n := dcnt G k + 1) (by omega) (by omega)]
      and_intros
      all_goals try first | omega | exact ⟨by kernel_rfl⟩
      exact ⟨⟨k + 1, by omega⟩, GS.to (by simp [hds, ps]), by simp; omega⟩
     ·rw [hb] at hds
      simp -dsimp [hkz, hb, wrap_i64 (n := (k : Int) + 1) (by omega) (by omega)]
      and_intros
      all_goals try first | omega | exact ⟨by kernel_rfl⟩
      exact ⟨⟨k + 1, by omega⟩, GS.to (by simp [hds, ps]), by simp; omega⟩
  ·have hiz : ¬ (i : Int) < G.length := by omega
   obtain rfl : i = G.length := by omega
   simp -dsimp [hiz, ps]
   refine Fin.of ?_
   simp
end Go.Proofs
