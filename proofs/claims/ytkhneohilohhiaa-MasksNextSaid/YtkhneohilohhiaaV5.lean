/-
  What functions of the program compute, stated as contracts over plain data; the conditions of each stand in its own statement.
-/
import Derived.Test.YtkhneohilohhiaaE9
set_option linter.unusedSimpArgs false
set_option maxRecDepth 100000
set_option maxHeartbeats 2000000
namespace Go.Proofs
open Go Go.Tr
theorem new_c (l : List Int) : Contract Try.prog 12 [.d (ints l)] [] (.ptr (.o 10) 0) [] [(10, tapeI (l.take 600, 0))] := by
  refine contract_of Try.func12 rfl (fun E0 => ?_)
  refine awp.sound (g := .mk) (ow := []) (kp := (fun k => k == 0 || k == 2 || k == 5)) ?_
  rw [Try.ntmps12]
  simp -dsimp [ints]
  refine AIf.dec (fun h => ?_) (fun h => ?_)
  · simp -dsimp
    refine ⟨by omega, ?_⟩
    refine Fin.of ?_
    simp [tapeI, ints]
  · simp -dsimp
    refine Fin.of ?_
    simp [tapeI, ints, List.take_of_length_le (show l.length ≤ 600 by omega)]
@[simp] theorem isObj_tape (T : Tp) : isObj (tapeI T) = true := rfl
theorem tape_new (L : List Int) (h : ∀ x ∈ L, I64 x) : TapeOK (L.take 600, 0) := ⟨by simp; omega, fun x hx => h x (List.mem_of_mem_take hx)⟩
def cntU (n k m : Nat) : Nat := ((List.range m).filter fun p => decide (p % n = k)).length
theorem cntU_le (n k m : Nat) : cntU n k m ≤ m := Nat.le_trans (List.length_filter_le _ _) (by simp)
theorem cntU_succ (n k m : Nat) : cntU n k (m + 1) = if m % n = k then cntU n k m + 1 else cntU n k m := by
  simp only [cntU, List.range_succ, List.filter_append, List.length_append]
  by_cases h : m % n = k <;> simp [h]
theorem cntU_pos {n k : Nat} (hk : k < n) (h8 : k < 8) : cntU n k 8 ≠ 0 := by
  have : k ∈ (List.range 8).filter fun p => decide (p % n = k) := by
    rw [List.mem_filter]
    exact ⟨List.mem_range.2 h8, by simp [Nat.mod_eq_of_lt hk]⟩
  have := List.length_pos_of_mem this
  unfold cntU
  omega
theorem used_law (L : List Int) (hL : ∀ x ∈ L, I64 x) : Contract Try.prog 8 [.d (ints L)] [] (.d (.bool true)) [] [] := by
  refine contract_of Try.func8 rfl (fun E0 => ?_)
  refine awp.sound (g := .mk) (ow := []) (kp := (fun k => k == 0 || k == 2 || k == 3 || k == 4 || k == 5 || k == 6 || k == 7 || k == 8 || k == 9 || k == 18 || k == 36 || k == 40 || k == 44 || k == 65 || k == 81)) ?_
  rw [Try.ntmps8]
  simp -dsimp
  refine ACall.of (new_c L) [] 0 ?_
  simp -dsimp
  have kT : TapeOK (L.take 600, 0) := tape_new L hL
  refine ACall.of (table0_c _ kT) [.o 10] 0 ?_
  have hc := gTab0_ok (L.take 600, 0)
  have hs := chk_sm hc
  have hbl := hs.rows
  generalize (gTab0 (L.take 600, 0)).1 = b at hc hs hbl ⊢
  generalize (gTab0 (L.take 600, 0)).2 = T1
  simp -dsimp [tblT, rwsD_eq]
  refine ALoop.of [] (fun k => k == 0 || k == 2 || k == 3 || k == 4 || k == 5 || k == 6 || k == 7 || k == 8 || k == 9 || k == 18 || k == 36 || k == 40 || k == 44 || k == 65 || k == 81) (ι := { i : Nat // i ≤ b.rows.length ∧ True }) (fun z => [(Pl.s 0, It.v (TV.d (ints L))), (Pl.s 2, It.v (TV.d (D.bool false))), (Pl.o 10, tapeI T1), (Pl.s 3, It.v (TV.ptr (Pl.o 10) 0)), (Pl.o 4, It.box [TV.d (D.int IntKind.i64 b.r), TV.d (D.int IntKind.i64 b.sd), TV.d (D.int IntKind.i64 b.len), TV.d (D.sl (rws b.rows))]), (Pl.s 4, It.v (TV.ptr (Pl.o 4) 0)), (Pl.s 5, It.v (TV.d (D.int IntKind.i64 z.1)))]) (fun z => b.rows.length - z.1) ⟨0, by omega, trivial⟩ ?_ ?_
  · exact GS.to (by simp)
  rintro ⟨i, i1, _⟩
  by_cases hi : i < b.rows.length
  · have hiz : (i : Int) < b.rows.length := by omega
    have hx : b.rows[i]? = some b.rows[i] := List.getElem?_eq_getElem hi
    have hxm : b.rows[i] ∈ b.rows := List.getElem_mem hi
    generalize b.rows[i] = x at hx hxm
    have hnl := hs.nx x hxm
    have hx' := rws_get hx
    simp -dsimp [hiz, hx']
    and_intros
    all_goals try first | rfl | omega | exact ⟨by kernel_rfl⟩
    have hpl := plnN_len x.nx.length 8
    have hpg : ∀ k, k < x.nx.length → (plnN x.nx.length 8)[k]? = some (cntU x.nx.length k 8 : Int) := fun k hk => plnN_get hk
    have hpc := planes_c x hnl
    generalize plnN x.nx.length 8 = P at hpl hpg hpc
    refine ACall.of hpc [] 0 ?_
    have hpz : ((P.length : Int) = x.nx.length) = True := eq_true (by omega)
    have hpi : ∀ {k : Nat}, k < x.nx.length → (ints P) = (ints P) := fun _ => rfl
    simp -dsimp [hiz, hx', rwT, ints, hpz]
    and_intros
    all_goals try first | rfl | omega | exact ⟨by kernel_rfl⟩
    refine ALoop.of [] (fun k => k == 0 || k == 2 || k == 3 || k == 4 || k == 5 || k == 6 || k == 7 || k == 8 || k == 9 || k == 18 || k == 36 || k == 40 || k == 44 || k == 65 || k == 81) (ι := { i : Nat // i ≤ x.nx.length ∧ True }) (fun z => [(Pl.s 0, It.v (TV.d (ints L))), (Pl.s 2, It.v (TV.d (D.bool false))), (Pl.o 10, tapeI T1), (Pl.s 3, It.v (TV.ptr (Pl.o 10) 0)), (Pl.o 4, It.box [TV.d (D.int IntKind.i64 b.r), TV.d (D.int IntKind.i64 b.sd), TV.d (D.int IntKind.i64 b.len), TV.d (D.sl (rws b.rows))]), (Pl.s 4, It.v (TV.ptr (Pl.o 4) 0)), (Pl.s 5, It.v (TV.d (D.int IntKind.i64 i))), (Pl.s 6, It.v (TV.d (ints P))), (Pl.s 7, It.v (TV.d (D.int IntKind.i64 z.1)))]) (fun z => x.nx.length - z.1) ⟨0, by omega, trivial⟩ ?_ ?_
    · exact GS.to (by simp [ints])
    rintro ⟨k, k1, _⟩
    by_cases hk : k < x.nx.length
    · have hkz : (k : Int) < x.nx.length := by omega
      have hkP : (k : Int) < P.length := by omega
      have hxk : x.nx[k]? = some x.nx[k] := List.getElem?_eq_getElem hk
      generalize x.nx[k] = v at hxk
      have hu : ∀ p : Nat, p ≤ 7 → decide (nextV b x.id p = v) = decide (p % x.nx.length = k) := fun p hp => used_at hc hxm hxk hp
      have hxk' : (x.nx.map fun n => [D.int IntKind.i64 n])[k]? = some [.int .i64 v] := by simp [hxk]
      have hPk' : (P.map fun n => [D.int IntKind.i64 n])[k]? = some [.int .i64 (cntU x.nx.length k 8 : Int)] := by simp [hpg k hk]
      simp -dsimp [ints, hkz, hkP]
      refine ALoop.of [] (fun k => k == 0 || k == 2 || k == 3 || k == 4 || k == 5 || k == 6 || k == 7 || k == 8 || k == 9 || k == 18 || k == 36 || k == 40 || k == 44 || k == 65 || k == 81) (ι := { i : Nat // i ≤ 8 ∧ True }) (fun z => [(Pl.s 0, It.v (TV.d (ints L))), (Pl.s 2, It.v (TV.d (D.bool false))), (Pl.o 10, tapeI T1), (Pl.s 3, It.v (TV.ptr (Pl.o 10) 0)), (Pl.o 4, It.box [TV.d (D.int IntKind.i64 b.r), TV.d (D.int IntKind.i64 b.sd), TV.d (D.int IntKind.i64 b.len), TV.d (D.sl (rws b.rows))]), (Pl.s 4, It.v (TV.ptr (Pl.o 4) 0)), (Pl.s 5, It.v (TV.d (D.int IntKind.i64 i))), (Pl.s 6, It.v (TV.d (ints P))), (Pl.s 7, It.v (TV.d (D.int IntKind.i64 k))), (Pl.s 8, It.v (TV.d (D.int IntKind.i64 (cntU x.nx.length k z.1 : Int)))), (Pl.s 9, It.v (TV.d (D.int IntKind.i64 z.1)))]) (fun z => 8 - z.1) ⟨0, by omega, trivial⟩ ?_ ?_
      · exact GS.to (by simp [ints, cntU])
      rintro ⟨p, p1, _⟩
      by_cases hp : p < 8
      · have hpz : (p : Int) < 8 := by omega
        have hup := hu p (by omega)
        have hcl := cntU_le x.nx.length k p
        have hcs := cntU_succ x.nx.length k p
        simp -dsimp [hiz, hx', hpz, ints]
        and_intros
        all_goals try first | rfl | omega | exact ⟨by kernel_rfl⟩
        refine ACall.of (mnext_c b hs x.id p) [] 0 ?_
        generalize nextV b x.id p = w at hup
        by_cases hm : p % x.nx.length = k
        · rw [decide_eq_true hm, decide_eq_true_eq] at hup
          rw [if_pos hm] at hcs
          simp -dsimp [hiz, hx', hxk', hpz, ints, tblT, rwsD_eq, eq_true hup, wrap_i64 (n := (p : Int) + 1) (by omega) (by omega), wrap_i64 (n := (cntU x.nx.length k p : Int) + 1) (by omega) (by omega)]
          and_intros
          all_goals try first | rfl | omega | exact ⟨by kernel_rfl⟩
          exact ⟨⟨p + 1, by omega, trivial⟩, GS.to (by simp [hcs, ints]), by simp; omega⟩
        · rw [decide_eq_false hm, decide_eq_false_iff_not] at hup
          rw [if_neg hm] at hcs
          simp -dsimp [hiz, hx', hxk', hpz, ints, tblT, rwsD_eq, eq_false hup, wrap_i64 (n := (p : Int) + 1) (by omega) (by omega)]
          and_intros
          all_goals try first | rfl | omega | exact ⟨by kernel_rfl⟩
          exact ⟨⟨p + 1, by omega, trivial⟩, GS.to (by simp [hcs, ints]), by simp; omega⟩
      · obtain rfl : p = 8 := by omega
        by_cases h8 : k < 8
        · have h8z : (k : Int) < 8 := by omega
          have hpos := cntU_pos hk h8
          have hpz : ¬ (cntU x.nx.length k 8 : Int) = 0 := by omega
          simp -dsimp [ints, hx', hPk', h8z, hpz, hpos, wrap_i64 (n := (k : Int) + 1) (by omega) (by omega)]
          and_intros
          all_goals try first | rfl | omega | exact ⟨by kernel_rfl⟩
          exact ⟨⟨k + 1, by omega, trivial⟩, GS.to (by simp [ints]), by simp; omega⟩
        · have h8z : ¬ (k : Int) < 8 := by omega
          simp -dsimp [ints, hx', hPk', h8z, wrap_i64 (n := (k : Int) + 1) (by omega) (by omega)]
          and_intros
          all_goals try first | rfl | omega | exact ⟨by kernel_rfl⟩
          exact ⟨⟨k + 1, by omega, trivial⟩, GS.to (by simp [ints]), by simp; omega⟩
    · have hkz : ¬ (k : Int) < x.nx.length := by omega
      have hkP : ¬ (k : Int) < P.length := by omega
      obtain rfl : k = x.nx.length := by omega
      simp -dsimp [hkz, hkP, ints, wrap_i64 (n := (i : Int) + 1) (by omega) (by omega)]
      exact ⟨⟨i + 1, by omega, trivial⟩, GS.to (by simp [ints]), by simp; omega⟩
  · have hiz : ¬ (i : Int) < b.rows.length := by omega
    obtain rfl : i = b.rows.length := by omega
    simp -dsimp [hiz]
    refine ACall.of awake_c [] 0 ?_
    simp -dsimp
    refine Fin.of ?_
    simp
end Go.Proofs
