/-
  What functions of the program compute, stated as contracts over plain data; the conditions of each stand in its own statement.
-/
import Derived.Test.YtbjbhnidedfcfaaK4
set_option linter.unusedSimpArgs false
set_option maxRecDepth 100000
set_option maxHeartbeats 400000
namespace Go.Proofs
open Go Go.Tr

theorem sets_law (t : List Int) (ht : ∀ x ∈ t, I64 x) : Contract Try.prog 5 [.d (ints t)] [] (.d (.bool true)) [] [] := by
  refine contract_of Try.func5 rfl (fun E0 => ?_)
  refine awp.sound (g := .mk) (ow := []) (kp := (fun k => k == 0 || k == 2 || k == 3 || k == 4 || k == 5 || k == 6 || k == 7 || k == 8 || k == 9 || k == 10 || k == 11 || k == 32 || k == 58 || k == 81)) ?_
  rw [Try.ntmps5]
  simp -dsimp
  refine ACall.of (new_c t) [] 0 ?_
  simp -dsimp
  have k0 : TapeOK (t.take 600, 0) := ⟨by simp; omega, fun x hx => ht x (List.mem_of_mem_take hx)⟩
  generalize (t.take 600, 0) = T0 at k0 ⊢
  refine ACall.of (topo_c T0 k0 8 ⟨by omega, by omega⟩) [.o 10] 0 ?_
  simp -dsimp [topT]
  have k1 : TapeOK (gTop T0 8).2 := by simpa using k0
  have l1 := gTop_rs T0 (most := 8) (by omega)
  have hrs : ∃ k : Nat, k ≤ 8 ∧ (gTop T0 8).1.rs = gRts k := ⟨(gRange T0 1 8).1.toNat, by have := gRange_hi T0 (a := 1) (b := 8) (by omega); omega, rfl⟩
  generalize gTop T0 8 = R1 at k1 l1 hrs ⊢
  obtain ⟨k, hk, hrs⟩ := hrs
  refine ACall.of (plan_c R1.2 k1 R1.1.rs R1.1.ls (by omega) 0 ⟨by omega, by omega⟩) [.o 10] 0 ?_
  simp -dsimp [planT]
  have k2 : TapeOK (gPlan R1.2 R1.1.rs 0).2 := by simpa using k1
  have l2 := gPlan_len R1.2 R1.1.rs 0
  have v2 : PlanV (gRts k) (gPlan R1.2 R1.1.rs 0).1 := by rw [hrs]; simpa [gPlan] using gPlan0_valid R1.2 (k := k) (by omega)
  generalize gPlan R1.2 R1.1.rs 0 = R2 at k2 l2 v2 ⊢
  refine ACall.of (choose_c R2.2 k2 R2.1 (by omega) 0 ⟨by omega, by omega⟩) [.o 10] 0 ?_
  simp -dsimp [planT]
  have k4 : TapeOK (gCh R2.2 R2.1 0).2 := by simpa [gCh0_ok] using k2
  have l4 := gCh_len R2.2 R2.1 0
  have s4 := gCh0_sub R2.2 R2.1
  generalize gCh R2.2 R2.1 0 = R4 at l4 k4 s4 ⊢
  obtain ⟨hset, hV⟩ := setsV_of v2 s4
  refine ACall.of (template_c R4.2 k4) [.o 10] 0 ?_
  have v5 := gTempl_valid R4.2
  generalize gTempl R4.2 = R5 at v5 ⊢
  simp -dsimp [pkT, Pk.cs]
  refine ACall.of (packets_c R2.1 (by omega) R4.1 (by omega) R5.1) [] 0 ?_
  have hp : packR R2.1 R4.1 R5.1 = ((sbAll R2.1.len R4.1 []).map (R5.1.with R2.1), 0) := by
    rw [packR, hset, if_pos rfl, pkAll_ok _ _ _ _ fun s hs => with_ok v5 v2 hV hs]; rfl
  rw [hp]
  have hlen := setsR_len R2.1 R4.1
  rw [hset] at hlen
  dsimp only at hlen
  generalize sbAll R2.1.len R4.1 [] = l at hV hlen ⊢
  simp -dsimp [planT, pkT, Pk.cs, packT]
  refine ⟨?_, ⟨by kernel_rfl⟩⟩
  generalize R2.1 = p at hV hset l2 v2 hp l4 s4 ⊢
  generalize R5.1 = q at v5 hp ⊢
  have hc : ∀ i, sumC (l.take i) ≤ 64 * i := fun i => by
    induction i with
    | zero => simp [sumC]
    | succ i ih =>
      rw [List.take_add_one, sumC_app]
      cases hi : l[i]? with
      | none => simp [sumC] at ih ⊢; omega
      | some s => have := listN_len s.bits 64; simp [sumC] at ih ⊢; omega
  refine ALoop.of [] (fun k => k == 0 || k == 2 || k == 3 || k == 4 || k == 5 || k == 6 || k == 7 || k == 8 || k == 9 || k == 10 || k == 11 || k == 32 || k == 58 || k == 81) (ι := { i : Nat // i ≤ l.length })
    (fun z => [(Pl.s 0, It.v (TV.d (ints t))), (Pl.s 2, It.v (TV.d (D.bool false))), (Pl.o 10, tapeI R5.2), (Pl.s 3, It.v (TV.ptr (Pl.o 10) 0)),
      (Pl.o 4, It.box [TV.d (D.int IntKind.i64 p.subd), TV.d (D.int IntKind.i64 p.len), TV.d (D.sl (eds p.es))]), (Pl.s 4, It.v (TV.ptr (Pl.o 4) 0)), (Pl.s 5, It.v (TV.d (ints R4.1))),
      (Pl.s 6, It.v (TV.d (D.sl (pks (l.map (q.with p)))))), (Pl.s 7, It.v (TV.d (D.int IntKind.i64 0))), (Pl.s 8, It.v (TV.d (D.int IntKind.i64 (sumC (l.take z.1))))), (Pl.s 9, It.v (TV.d (D.int IntKind.i64 z.1)))])
    (fun z => l.length - z.1) ⟨0, by omega⟩ ?_ ?_
  · exact GS.to (by simp [sumC])
  · rintro ⟨i, hi⟩
    by_cases h : i < l.length
    · obtain ⟨s, hs⟩ : ∃ s, l[i]? = some s := ⟨l[i], List.getElem?_eq_getElem h⟩
      have hm : s ∈ l := List.mem_of_getElem? hs
      have hw : (l.map (q.with p))[i]? = some (q.with p s) := by simp [hs]
      have ho := with_ok v5 v2 hV hm
      obtain ⟨out, n1, n2⟩ := hV.nm s hm
      have n3 := hV.ne s hm
      have n4 := listN_len s.bits 64
      have n5 := hc i
      have n6 : sumC (l.take (i + 1)) = sumC (l.take i) + out.length := by
        rw [List.take_add_one, hs, sumC_app, n2]; simp [sumC]
      rw [← n2] at n3 n4
      clear n2
      simp -dsimp [h, pks_get' hw, Pk.cs]
      refine ACall.of (valid_c (q.with p s)) [] 0 ?_
      simp -dsimp [pkT, Pk.cs, ho]
      by_cases h0 : 0 < i
      · have hi1 : i - 1 < l.length := by omega
        obtain ⟨y, hy⟩ : ∃ y, l[i - 1]? = some y := ⟨l[i - 1], List.getElem?_eq_getElem hi1⟩
        have hwy : (l.map (q.with p))[i - 1]? = some (q.with p y) := by simp [hy]
        have hlt : y.set < s.set := by
          have := List.pairwise_iff_getElem.1 hV.asc (i - 1) i hi1 h (by omega)
          rw [List.getElem?_eq_some_iff] at hs hy
          obtain ⟨_, rfl⟩ := hs
          obtain ⟨_, rfl⟩ := hy
          exact this
        have b5 : (1 : Int) ≤ i := by omega
        have b6 : (i : Int) - 1 < l.length := by omega
        have b7 : ¬ s.set ≤ y.set := by omega
        have pk1 : (pks (l.map (q.with p)))[i - 1]? = some (q.with p y).cs := by simp [pks, hy]
        have pk2 : (pks (l.map (q.with p)))[i]? = some (q.with p s).cs := by simp [pks, hs]
        simp -dsimp [h0, h, hi1, b5, b6, b7, pk1, pk2, pks_get' hw, pks_get' hwy, Pk.cs, Pk.with, wrap_i64 (n := (i : Int) - 1) (by omega) (by omega)]
        try refine ⟨?_, ⟨by kernel_rfl⟩⟩
        refine ACall.of (names10_c p (by omega) s) [] 0 ?_
        simp -dsimp [planT, Sb.cs, n1, namesT]
        have n7 : ¬ (out.length : Int) = 0 := by omega
        have n8 : ¬ out.length = 0 := by omega
        simp -dsimp [ints, n7, n8, wrap_i64 (n := (sumC (List.take i l) : Int) + out.length) (by omega) (by omega), wrap_i64 (n := (i : Int) + 1) (by omega) (by omega)]
        refine ⟨?_, ⟨by kernel_rfl⟩⟩
        exact ⟨⟨i + 1, by omega⟩, GS.to (by simp [ints, n6]), by simp; omega⟩
      · obtain rfl : i = 0 := by omega
        have pk2 : (pks (l.map (q.with p)))[0]? = some (q.with p s).cs := by simp [pks, hs]
        simp -dsimp [h, pk2, pks_get' hw, Pk.cs, Pk.with]
        try refine ⟨?_, ⟨by kernel_rfl⟩⟩
        refine ACall.of (names10_c p (by omega) s) [] 0 ?_
        simp -dsimp [planT, Sb.cs, n1, namesT]
        have n7 : ¬ (out.length : Int) = 0 := by omega
        have n8 : ¬ out.length = 0 := by omega
        simp -dsimp [ints, n7, n8, wrap_i64 (n := (sumC (List.take 0 l) : Int) + out.length) (by omega) (by omega), wrap_i64 (n := 1) (by omega) (by omega)]
        have n9 : sumC (l.take 1) = out.length := by rw [n6]; simp [sumC]
        have n10 : sumC [] = 0 := rfl
        refine ⟨?_, ⟨by kernel_rfl⟩⟩
        exact ⟨⟨1, by omega⟩, GS.to (by simp [ints, n9, n10, wrap_i64 (n := (out.length : Int)) (by omega) (by omega)]), by simp; omega⟩
    · obtain rfl : i = l.length := by omega
      have hs : sumC l = R4.1.length := hV.sum
      simp -dsimp [h, hs, ints]
      refine ACall.of awake_c [] 0 ?_
      simp -dsimp
      refine Fin.of ?_
      simp
end Go.Proofs
