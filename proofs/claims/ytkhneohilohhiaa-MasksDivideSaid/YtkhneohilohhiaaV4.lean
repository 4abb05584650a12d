/-
  What functions of the program compute, stated as contracts over plain data; the conditions of each stand in its own statement.
-/
import Derived.Test.YtkhneohilohhiaaV5
set_option linter.unusedSimpArgs false
set_option maxRecDepth 100000
set_option maxHeartbeats 2000000
namespace Go.Proofs
open Go Go.Tr
def hasB (B : BitVec 64) (k : Nat) : Bool := decide (B >>> k &&& 1#64 = 1#64)
theorem hasB_c (B : BitVec 64) (k : Nat) (hk : k < 64) : Contract Try.prog 30 [.d (bv B), .d (.int .i64 k)] [] (.d (.bool (hasB B k))) [] [] := by
  refine contract_of Try.func30 rfl (fun E0 => ?_)
  refine awp.sound (g := .mk) (ow := []) (kp := (fun k => k == 0 || k == 1 || k == 4)) ?_
  rw [Try.ntmps30]
  have h1 : (k : Int) < 64 := by omega
  simp -dsimp [bv, h1, wrap_u64 (n := (k : Int)) (by omega) (by omega)]
  refine Fin.of ?_
  simp [hasB]
theorem hasB_bit (B : BitVec 64) (k : Nat) : hasB B k = B.getLsbD k := by
  unfold hasB
  have h : (B >>> k &&& 1#64) = if B.getLsbD k then 1#64 else 0#64 := by
    apply BitVec.eq_of_getLsbD_eq
    intro j hj
    rw [BitVec.getLsbD_and, BitVec.getLsbD_ushiftRight]
    by_cases h0 : j = 0
    · subst h0; cases h : B.getLsbD k <;> simp [h]
    · cases h : B.getLsbD k <;> simp [h0]
  rw [h]
  cases B.getLsbD k <;> simp
theorem member_law (L : List Int) (hL : ∀ x ∈ L, I64 x) : Contract Try.prog 7 [.d (ints L)] [] (.d (.bool true)) [] [] := by
  refine contract_of Try.func7 rfl (fun E0 => ?_)
  refine awp.sound (g := .mk) (ow := []) (kp := (fun k => k == 0 || k == 2 || k == 3 || k == 4 || k == 5 || k == 6 || k == 7 || k == 8 || k == 9 || k == 10 || k == 11 || k == 22 || k == 76 || k == 78 || k == 91)) ?_
  rw [Try.ntmps7]
  simp -dsimp
  refine ACall.of (new_c L) [] 0 ?_
  simp -dsimp
  have kT : TapeOK (L.take 600, 0) := tape_new L hL
  refine ACall.of (table0_c _ kT) [.o 10] 0 ?_
  have hc := gTab0_ok (L.take 600, 0)
  have hs := chk_sm hc
  have hbl := hs.rows
  have kT1 : TapeOK (gTab0 (L.take 600, 0)).2 := by rw [gTab0_tape]; exact kT
  generalize (gTab0 (L.take 600, 0)).1 = b at hc hs hbl ⊢
  generalize (gTab0 (L.take 600, 0)).2 = T0 at kT1 ⊢
  simp -dsimp [tblT, rwsD_eq]
  refine ACall.of (next_c T0 kT1 8 ⟨by omega, by omega⟩) [.o 10] 0 ?_
  have m1 := gNext_nonneg T0 8
  have m2 := gNext_lt T0 (n := 8) (by omega)
  generalize hp : (gNext T0 8).1 = p at m1 m2 ⊢
  generalize (gNext T0 8).2 = T1
  simp -dsimp
  have hnv : ∀ x ∈ b.rows, nextV b x.id p = hopR x p := fun x hx => nextV_of hc ⟨by omega, by omega⟩ hx
  have hmb : ∀ x ∈ b.rows, ∀ n : Int, (maskP b p (plSet x.id b.len) n).getLsbD (plBit x.id b.len).toNat = decide (hopR x p = n ∧ n ≠ 0) := fun x hx n => by rw [← hnv x hx]; exact member_at hc ⟨by omega, by omega⟩ hx
  refine ALoop.of [] (fun k => k == 0 || k == 2 || k == 3 || k == 4 || k == 5 || k == 6 || k == 7 || k == 8 || k == 9 || k == 10 || k == 11 || k == 22 || k == 76 || k == 78 || k == 91) (ι := { i : Nat // i ≤ b.rows.length ∧ True }) (fun z => [(Pl.s 0, It.v (TV.d (ints L))), (Pl.s 2, It.v (TV.d (D.bool false))), (Pl.o 10, tapeI T1), (Pl.s 3, It.v (TV.ptr (Pl.o 10) 0)), (Pl.o 4, It.box [TV.d (D.int IntKind.i64 b.r), TV.d (D.int IntKind.i64 b.sd), TV.d (D.int IntKind.i64 b.len), TV.d (D.sl (rws b.rows))]), (Pl.s 4, It.v (TV.ptr (Pl.o 4) 0)), (Pl.s 5, It.v (TV.d (D.int IntKind.i64 p))), (Pl.s 6, It.v (TV.d (D.int IntKind.i64 z.1)))]) (fun z => b.rows.length - z.1) ⟨0, by omega, trivial⟩ ?_ ?_
  · exact GS.to (by simp)
  rintro ⟨i, i1, _⟩
  by_cases hi : i < b.rows.length
  · have hiz : (i : Int) < b.rows.length := by omega
    have hx : b.rows[i]? = some b.rows[i] := List.getElem?_eq_getElem hi
    have hxm : b.rows[i] ∈ b.rows := List.getElem_mem hi
    generalize b.rows[i] = x at hx hxm
    have hnl := hs.nx x hxm
    have hx' := rws_get hx
    have hnx := hnv x hxm
    have hmx := hmb x hxm
    have hok := rows_len hc hxm
    have hpl := plB x.id b.len
    have hne := hopR_ne hc hxm p
    have hin := hopR_in (x := x) p
    simp -dsimp [hiz, hx']
    and_intros
    all_goals try first | rfl | omega | exact ⟨by kernel_rfl⟩
    refine ACall.of (place10_c x.id b.len) [] 0 ?_
    rw [placeT, hok.1, hok.2]
    generalize plSet x.id b.len = st at hmx hpl ⊢
    generalize plBit x.id b.len = bt at hmx hpl ⊢
    simp -dsimp [hiz, hx']
    and_intros
    all_goals try first | rfl | omega | exact ⟨by kernel_rfl⟩
    refine ACall.of (mnext_c b hs x.id p) [] 0 ?_
    rw [hnx]
    generalize hopR x p = n at hmx hne hin ⊢
    by_cases hn : n = 0
    · have hnil : x.nx = [] := Classical.byContradiction fun h => (hne.2 h) hn
      have hx0 : (rws b.rows)[i]? = some [.int .i64 x.id, ints []] := by rw [hx', hnil]
      simp -dsimp [hiz, hx0, tblT, rwsD_eq, eq_true hn, ints]
      and_intros
      all_goals try first | rfl | omega | exact ⟨by kernel_rfl⟩
      as_aux_lemma =>
      refine ALoop.of [] (fun k => k == 0 || k == 2 || k == 3 || k == 4 || k == 5 || k == 6 || k == 7 || k == 8 || k == 9 || k == 10 || k == 11 || k == 22 || k == 76 || k == 78 || k == 91) (ι := { k : Nat // 1 ≤ k ∧ k ≤ 9 }) (fun z => [(Pl.s 0, It.v (TV.d (ints L))), (Pl.s 2, It.v (TV.d (D.bool false))), (Pl.o 10, tapeI T1), (Pl.s 3, It.v (TV.ptr (Pl.o 10) 0)), (Pl.o 4, It.box [TV.d (D.int IntKind.i64 b.r), TV.d (D.int IntKind.i64 b.sd), TV.d (D.int IntKind.i64 b.len), TV.d (D.sl (rws b.rows))]), (Pl.s 4, It.v (TV.ptr (Pl.o 4) 0)), (Pl.s 5, It.v (TV.d (D.int IntKind.i64 p))), (Pl.s 6, It.v (TV.d (D.int IntKind.i64 i))), (Pl.s 7, It.v (TV.d (D.int IntKind.i64 st))), (Pl.s 8, It.v (TV.d (D.int IntKind.i64 bt))), (Pl.s 9, It.v (TV.d (D.bool true))), (Pl.s 10, It.v (TV.d (D.int IntKind.i64 n))), (Pl.s 11, It.v (TV.d (D.int IntKind.i64 z.1)))]) (fun z => 9 - z.1) ⟨1, by omega, by omega⟩ ?_ ?_
      · exact GS.to (by simp [ints])
      rintro ⟨k, k1, k2⟩
      by_cases hk : k < 9
      · have hkz : (k : Int) < 9 := by omega
        have hkz : (k : Int) ≤ 8 := by omega
        have hmk := hmx k
        obtain ⟨bn, rfl⟩ : ∃ bn : Nat, bt = bn := ⟨bt.toNat, by omega⟩
        rw [Int.toNat_natCast] at hmk
        simp -dsimp [hkz, ints]
        refine ACall.of (mask_c b hs p st k) [] 0 ?_
        simp -dsimp [hkz, ints, tblT, rwsD_eq]
        refine ACall.of (hasB_c (maskP b p st k) bn (by omega)) [] 0 ?_
        rw [hasB_bit, hmk]
        by_cases hnk : n = k
        · have hd : decide (n = (k : Int) ∧ (k : Int) ≠ 0) = true := by simp [hnk]; try omega
          rw [hd]
          simp -dsimp [hkz, ints, eq_true hnk, wrap_i64 (n := (k : Int) + 1) (by omega) (by omega)]
          and_intros
          all_goals try first | rfl | omega | exact ⟨by kernel_rfl⟩
          all_goals exact ⟨⟨k + 1, by omega, by omega⟩, GS.to (by simp [ints, hnk]), by simp; omega⟩
        · have hd : decide (n = (k : Int) ∧ (k : Int) ≠ 0) = false := by simp [hnk]
          rw [hd]
          simp -dsimp [hkz, ints, eq_false hnk, wrap_i64 (n := (k : Int) + 1) (by omega) (by omega)]
          and_intros
          all_goals try first | rfl | omega | exact ⟨by kernel_rfl⟩
          exact ⟨⟨k + 1, by omega, by omega⟩, GS.to (by simp [ints]), by simp; omega⟩
      · obtain rfl : k = 9 := by omega
        simp -dsimp [ints, wrap_i64 (n := (i : Int) + 1) (by omega) (by omega)]
        exact ⟨⟨i + 1, by omega, trivial⟩, GS.to (by simp [ints]), by simp; omega⟩
    · have hnn := hne.1 hn
      have hlz : 0 < x.nx.length := List.length_pos_iff.2 hnn
      simp -dsimp [hiz, hx', tblT, rwsD_eq, eq_false hn, hlz, ints]
      and_intros
      all_goals try first | rfl | omega | exact ⟨by kernel_rfl⟩
      refine ACall.of (has04_c x.nx (by omega) n) [] 0 ?_
      have hin' : hasI x.nx n = true := by simpa [hasI] using hin hnn
      rw [hin']
      simp -dsimp [hiz, hx', tblT, rwsD_eq, eq_false hn, hlz, ints]
      and_intros
      all_goals try first | rfl | omega | exact ⟨by kernel_rfl⟩
      as_aux_lemma =>
      refine ALoop.of [] (fun k => k == 0 || k == 2 || k == 3 || k == 4 || k == 5 || k == 6 || k == 7 || k == 8 || k == 9 || k == 10 || k == 11 || k == 22 || k == 76 || k == 78 || k == 91) (ι := { k : Nat // 1 ≤ k ∧ k ≤ 9 }) (fun z => [(Pl.s 0, It.v (TV.d (ints L))), (Pl.s 2, It.v (TV.d (D.bool false))), (Pl.o 10, tapeI T1), (Pl.s 3, It.v (TV.ptr (Pl.o 10) 0)), (Pl.o 4, It.box [TV.d (D.int IntKind.i64 b.r), TV.d (D.int IntKind.i64 b.sd), TV.d (D.int IntKind.i64 b.len), TV.d (D.sl (rws b.rows))]), (Pl.s 4, It.v (TV.ptr (Pl.o 4) 0)), (Pl.s 5, It.v (TV.d (D.int IntKind.i64 p))), (Pl.s 6, It.v (TV.d (D.int IntKind.i64 i))), (Pl.s 7, It.v (TV.d (D.int IntKind.i64 st))), (Pl.s 8, It.v (TV.d (D.int IntKind.i64 bt))), (Pl.s 9, It.v (TV.d (D.bool true))), (Pl.s 10, It.v (TV.d (D.int IntKind.i64 n))), (Pl.s 11, It.v (TV.d (D.int IntKind.i64 z.1)))]) (fun z => 9 - z.1) ⟨1, by omega, by omega⟩ ?_ ?_
      · exact GS.to (by simp [ints])
      rintro ⟨k, k1, k2⟩
      by_cases hk : k < 9
      · have hkz : (k : Int) < 9 := by omega
        have hkz : (k : Int) ≤ 8 := by omega
        have hmk := hmx k
        obtain ⟨bn, rfl⟩ : ∃ bn : Nat, bt = bn := ⟨bt.toNat, by omega⟩
        rw [Int.toNat_natCast] at hmk
        simp -dsimp [hkz, ints]
        refine ACall.of (mask_c b hs p st k) [] 0 ?_
        simp -dsimp [hkz, ints, tblT, rwsD_eq]
        refine ACall.of (hasB_c (maskP b p st k) bn (by omega)) [] 0 ?_
        rw [hasB_bit, hmk]
        by_cases hnk : n = k
        · have hd : decide (n = (k : Int) ∧ (k : Int) ≠ 0) = true := by simp [hnk]; try omega
          rw [hd]
          simp -dsimp [hkz, ints, eq_true hnk, wrap_i64 (n := (k : Int) + 1) (by omega) (by omega)]
          and_intros
          all_goals try first | rfl | omega | exact ⟨by kernel_rfl⟩
          all_goals exact ⟨⟨k + 1, by omega, by omega⟩, GS.to (by simp [ints, hnk]), by simp; omega⟩
        · have hd : decide (n = (k : Int) ∧ (k : Int) ≠ 0) = false := by simp [hnk]
          rw [hd]
          simp -dsimp [hkz, ints, eq_false hnk, wrap_i64 (n := (k : Int) + 1) (by omega) (by omega)]
          and_intros
          all_goals try first | rfl | omega | exact ⟨by kernel_rfl⟩
          exact ⟨⟨k + 1, by omega, by omega⟩, GS.to (by simp [ints]), by simp; omega⟩
      · obtain rfl : k = 9 := by omega
        simp -dsimp [ints, wrap_i64 (n := (i : Int) + 1) (by omega) (by omega)]
        exact ⟨⟨i + 1, by omega, trivial⟩, GS.to (by simp [ints]), by simp; omega⟩
  · have hiz : ¬ (i : Int) < b.rows.length := by omega
    obtain rfl : i = b.rows.length := by omega
    simp -dsimp [hiz]
    refine ACall.of awake_c [] 0 ?_
    simp -dsimp
    refine Fin.of ?_
    simp
end Go.Proofs
