/-
  What functions of the program compute, stated as contracts over plain data; the conditions of each stand in its own statement.
-/
import Derived.Test.YtkhneohilohhiaaC7
set_option linter.unusedSimpArgs false
set_option maxRecDepth 100000
set_option maxHeartbeats 4000000
namespace Go.Proofs
open Go Go.Tr

theorem dd_set (xs : List (List D)) (i : Nat) (ds : List D) : (dd xs).set i (ds.map .d) = dd (xs.set i ds) := by simp [dd, List.map_set]
theorem nrow_set (l : List Int) (i : Nat) (v : Int) : (nrow .i64 l).set i [.int .i64 v] = nrow .i64 (l.set i v) := by simp [nrow, List.map_set]
theorem plnN_len (n k : Nat) : (plnN n k).length = n := by simp [plnN]
theorem plnN_get {n k i : Nat} (h : i < n) : (plnN n k)[i]? = some ((((List.range k).filter fun p => decide (p % n = i)).length : Nat) : Int) := by simp [plnN, h]
theorem plnN_zero (n : Nat) : plnN n 0 = List.replicate n 0 := by
  apply List.ext_getElem?
  intro i
  by_cases h : i < n
  · rw [plnN_get h, List.getElem?_replicate, if_pos h]; simp
  · rw [List.getElem?_eq_none (by rw [plnN_len]; omega), List.getElem?_eq_none (by simp; omega)]
theorem plnN_succ {n : Nat} (k : Nat) (hn : 0 < n) {c : Int} (hc : (plnN n k)[k % n]? = some c) : plnN n (k + 1) = (plnN n k).set (k % n) (c + 1) := by
  have hk : k % n < n := Nat.mod_lt _ hn
  apply List.ext_getElem?
  intro i
  rw [List.getElem?_set, plnN_len]
  by_cases h : i < n
  · rw [plnN_get h, plnN_get h, List.range_succ, List.filter_append]
    rw [plnN_get hk] at hc
    simp only [Option.some.injEq] at hc
    by_cases e : k % n = i
    · subst e
      rw [if_pos rfl, if_pos hk, ← hc]
      simp
    · rw [if_neg e]
      simp [e]
  · rw [List.getElem?_eq_none (by rw [plnN_len]; omega), if_neg (by omega), List.getElem?_eq_none (by rw [plnN_len]; omega)]
theorem planes_c (x : Rw) (hx : x.nx.length ≤ 1000000) : Contract Try.prog 11 [rwT x] [] (.d (ints (plnN x.nx.length 8))) [] [] := by
  refine contract_of Try.func11 rfl (fun E0 => ?_)
  refine awp.sound (g := .mk) (ow := []) (kp := (fun k => k == 0 || k == 1 || k == 2 || k == 3 || k == 4 || k == 16)) ?_
  rw [Try.ntmps11]
  simp -dsimp [rwT, ints]
  refine ⟨by omega, by omega, ?_⟩
  have hz : List.replicate x.nx.length [TV.d (D.int IntKind.i64 0)] = dd (nrow .i64 (plnN x.nx.length 0)) := by rw [plnN_zero]; simp [nrow, dd]
  rw [hz]
  refine ALoop.of [] (fun k => k == 0 || k == 1 || k == 2 || k == 3 || k == 4 || k == 16) (ι := { k : Nat // k ≤ 8 ∧ (k = 0 ∨ 0 < x.nx.length) })
    (fun z => [(Pl.o 1, It.box [TV.d (D.int IntKind.i64 x.id), TV.d (ints x.nx)]), (Pl.s 1, It.v (TV.ptr (Pl.o 1) 0)), (Pl.s 2, It.v (TV.c (Value.slice none 0 0))),
      (Pl.o 8, It.row 3 1 (dd (nrow .i64 (plnN x.nx.length z.1))) false), (Pl.s 3, It.v (TV.oref 8 x.nx.length)), (Pl.s 4, It.v (TV.d (D.int IntKind.i64 z.1)))]) (fun z => 8 - z.1) ⟨0, by omega, .inl rfl⟩ ?_ ?_
  · exact GS.to (by simp [ints])
  · rintro ⟨k, k1, k2⟩
    have hpl := plnN_len x.nx.length k
    by_cases hk : k < 8 ∧ 0 < x.nx.length
    · have hkz : (k : Int) < 8 := by omega
      have hnz : (0 : Int) < x.nx.length := by omega
      have hn0 : ¬ (x.nx.length : Int) = 0 := by omega
      have hn0' : ¬ x.nx.length = 0 := by omega
      have hm : (k : Int).tmod x.nx.length = (k : Int) % x.nx.length := Int.tmod_eq_emod_of_nonneg (by omega)
      have hlt : k % x.nx.length < x.nx.length := Nat.mod_lt _ hk.2
      have hmt : ((k : Int) % (x.nx.length : Int)).toNat = k % x.nx.length := by omega
      have hg : (plnN x.nx.length k)[k % x.nx.length]? = some ((((List.range k).filter fun p => decide (p % x.nx.length = k % x.nx.length)).length : Nat) : Int) := plnN_get hlt
      have hcb : ((List.range k).filter fun p => decide (p % x.nx.length = k % x.nx.length)).length ≤ k := Nat.le_trans (List.length_filter_le _ _) (by simp)
      have hsucc := plnN_succ k hk.2 hg
      generalize ((List.range k).filter fun p => decide (p % x.nx.length = k % x.nx.length)).length = c at hg hcb hsucc
      have hgr : (dd (nrow .i64 (plnN x.nx.length k)))[k % x.nx.length]? = some [TV.d (D.int IntKind.i64 c)] := by simp [dd, nrow, hg]
      simp -dsimp [ints, hkz, hnz, hk.2, hn0, hn0', hm, hmt, hgr, hpl, wrap_i64 (n := (c : Int) + 1) (by omega) (by omega), wrap_i64 (n := (k : Int) + 1) (by omega) (by omega)]
      and_intros
      all_goals try first | rfl | omega | exact ⟨by kernel_rfl⟩
      have hrow : (dd (nrow .i64 (plnN x.nx.length k))).set (k % x.nx.length) [TV.d (D.int IntKind.i64 ((c : Int) + 1))] = dd (nrow .i64 (plnN x.nx.length (k + 1))) := by
        rw [hsucc, ← nrow_set, ← dd_set]; rfl
      exact ⟨⟨k + 1, by omega, .inr hk.2⟩, GS.to (by simp [ints, hrow]), by simp; omega⟩
    · have hz2 : k = 8 ∨ x.nx.length = 0 := by omega
      rcases hz2 with rfl | hz2
      · simp -dsimp [ints]
        refine Fin.view 2 ?_
        simp -dsimp [hpl]
        refine Fin.of ?_
        simp [ints, nrow]
      · have hk0 : k = 0 := by omega
        subst hk0
        have hnz : ¬ (0 : Int) < x.nx.length := by omega
        simp -dsimp [ints, hnz, hz2]
        refine Fin.view 2 ?_
        simp -dsimp
        refine ⟨by simp [plnN], ?_⟩
        refine Fin.of ?_
        simp [ints, nrow, plnN]
theorem planes12_c (x : Rw) (hx : x.nx.length ≤ 1000000) : Contract Try.prog 32 [rwT x] [] (.d (ints (plnN x.nx.length 8))) [] [] := by
  refine contract_of Try.func32 rfl (fun E0 => ?_)
  refine awp.sound (g := .mk) (ow := []) (kp := (fun k => k == 0 || k == 1 || k == 2 || k == 3 || k == 4 || k == 5 || k == 6 || k == 11 || k == 15 || k == 24)) ?_
  rw [Try.ntmps32]
  simp -dsimp [rwT, ints]
  refine ALoop.of [] (fun k => k == 0 || k == 1 || k == 2 || k == 3 || k == 4 || k == 5 || k == 6 || k == 11 || k == 15 || k == 24) (ι := { i : Nat // i ≤ x.nx.length })
    (fun z => [(Pl.o 1, It.box [TV.d (D.int IntKind.i64 x.id), TV.d (ints x.nx)]), (Pl.s 1, It.v (TV.ptr (Pl.o 1) 0)), (Pl.s 2, It.v (TV.c (Value.slice none 0 0))),
      (Pl.s 3, It.v (TV.oref 3 ((plnN x.nx.length 8).take z.1).length)), (Pl.o 3, It.row 3 1 (dd (nrow .i64 ((plnN x.nx.length 8).take z.1))) false), (Pl.s 4, It.v (TV.d (D.int IntKind.i64 z.1)))]) (fun z => x.nx.length - z.1) ⟨0, by omega⟩ ?_ ?_
  · exact GS.own' (k := 3) 3 1 (by simp) (by simp) (by simp [ints, nrow])
  · rintro ⟨i, i1⟩
    by_cases hi : i < x.nx.length
    · have hiz : (i : Int) < x.nx.length := by omega
      have hnz : ¬ x.nx.length = 0 := by omega
      have hnzz : ¬ (x.nx.length : Int) = 0 := by omega
      have hg8 := plnN_get (n := x.nx.length) (k := 8) hi
      have hp8 := plnN_len x.nx.length 8
      simp -dsimp [ints, hiz]
      refine ALoop.of [] (fun k => k == 0 || k == 1 || k == 2 || k == 3 || k == 4 || k == 5 || k == 6 || k == 11 || k == 15 || k == 24) (ι := { k : Nat // k ≤ 8 })
        (fun z => [(Pl.o 1, It.box [TV.d (D.int IntKind.i64 x.id), TV.d (ints x.nx)]), (Pl.s 1, It.v (TV.ptr (Pl.o 1) 0)), (Pl.s 2, It.v (TV.c (Value.slice none 0 0))),
          (Pl.s 3, It.v (TV.oref 3 ((plnN x.nx.length 8).take i).length)), (Pl.o 3, It.row 3 1 (dd (nrow .i64 ((plnN x.nx.length 8).take i))) false), (Pl.s 4, It.v (TV.d (D.int IntKind.i64 i))),
          (Pl.s 5, It.v (TV.d (D.int IntKind.i64 ((List.range z.1).filter fun p => decide (p % x.nx.length = i)).length))), (Pl.s 6, It.v (TV.d (D.int IntKind.i64 z.1)))]) (fun z => 8 - z.1) ⟨0, by omega⟩ ?_ ?_
      · exact GS.to (by simp [ints])
      · rintro ⟨k, k1⟩
        have hcb : ((List.range k).filter fun p => decide (p % x.nx.length = i)).length ≤ k := Nat.le_trans (List.length_filter_le _ _) (by simp)
        have hcs : ((List.range (k + 1)).filter fun p => decide (p % x.nx.length = i)).length = ((List.range k).filter fun p => decide (p % x.nx.length = i)).length + if k % x.nx.length = i then 1 else 0 := by
          rw [List.range_succ, List.filter_append]
          by_cases e : k % x.nx.length = i <;> simp [e]
        by_cases hk : k < 8
        · have hkz : (k : Int) < 8 := by omega
          have hm : (k : Int).tmod x.nx.length = (k : Int) % x.nx.length := Int.tmod_eq_emod_of_nonneg (by omega)
          have hme : (k : Int) % x.nx.length = ((k % x.nx.length : Nat) : Int) := rfl
          by_cases e : k % x.nx.length = i
          · have ez : (k : Int) % (x.nx.length : Int) = i := by rw [hme, e]
            rw [if_pos e] at hcs
            simp -dsimp [ints, hkz, hk, hnz, hnzz, hm, ez, wrap_i64 (n := (((List.range k).filter fun p => decide (p % x.nx.length = i)).length : Int) + 1) (by omega) (by omega), wrap_i64 (n := (k : Int) + 1) (by omega) (by omega)]
            and_intros
            all_goals try first | rfl | omega | exact ⟨by kernel_rfl⟩
            exact ⟨⟨k + 1, by omega⟩, GS.to (by simp [ints, hcs]), by simp; omega⟩
          · have ez : ¬ (k : Int) % (x.nx.length : Int) = i := by rw [hme]; omega
            rw [if_neg e] at hcs
            simp -dsimp [ints, hkz, hk, hnz, hnzz, hm, ez, wrap_i64 (n := (k : Int) + 1) (by omega) (by omega)]
            and_intros
            all_goals try first | rfl | omega | exact ⟨by kernel_rfl⟩
            exact ⟨⟨k + 1, by omega⟩, GS.to (by simp [ints, hcs]), by simp; omega⟩
        · obtain rfl : k = 8 := by omega
          have hs : (plnN x.nx.length 8).take (i + 1) = (plnN x.nx.length 8).take i ++ [((((List.range 8).filter fun p => decide (p % x.nx.length = i)).length : Nat) : Int)] := by
            rw [List.take_add_one, hg8]; rfl
          generalize ((List.range 8).filter fun p => decide (p % x.nx.length = i)).length = c at hs ⊢
          simp -dsimp [ints, wrap_i64 (n := (i : Int) + 1) (by omega) (by omega)]
          and_intros
          all_goals try first | rfl | omega | exact ⟨by kernel_rfl⟩
          exact ⟨⟨i + 1, by omega⟩, GS.to (by simp [ints, hs, nrow]), by simp; omega⟩
    · obtain rfl : i = x.nx.length := by omega
      have hp8 := plnN_len x.nx.length 8
      simp -dsimp [ints]
      refine Fin.view 2 ?_
      simp -dsimp
      refine Fin.of ?_
      simp [ints, nrow, List.take_of_length_le, hp8]
end Go.Proofs
