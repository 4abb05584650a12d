/-
  What functions of the program compute, stated as contracts over plain data; the conditions of each stand in its own statement.
-/
import Derived.Test.YtkhneohilohhiaaV4
set_option linter.unusedSimpArgs false
set_option maxRecDepth 100000
set_option maxHeartbeats 2000000
namespace Go.Proofs
open Go Go.Tr
def wantN (b : Tb) (s : Int) (i : Nat) : BitVec 64 := (b.rows.take i).foldl (wantS b s) 0#64
def mks (m : Mk) : List (List D) := m.map fun e => [D.int .i64 e.1, bv e.2]
theorem mks_get {m : Mk} {i : Nat} {e : Int × BitVec 64} (h : m[i]? = some e) : (mks m)[i]? = some [D.int .i64 e.1, .int .u64 (tn e.2)] := by simp [mks, h, bv]
@[simp] theorem mks_len (m : Mk) : (mks m).length = m.length := by simp [mks]
theorem divide_law (L : List Int) (hL : ∀ x ∈ L, I64 x) : Contract Try.prog 5 [.d (ints L)] [] (.d (.bool true)) [] [] := by
  refine contract_of Try.func5 rfl (fun E0 => ?_)
  refine awp.sound (g := .mk) (ow := []) (kp := (fun k => k == 0 || k == 2 || k == 3 || k == 4 || k == 5 || k == 6 || k == 7 || k == 8 || k == 9 || k == 10 || k == 11 || k == 12 || k == 13 || k == 14 || k == 21 || k == 23 || k == 30 || k == 61 || k == 67 || k == 77 || k == 130 || k == 152 || k == 157)) ?_
  rw [Try.ntmps5]
  simp -dsimp
  refine ACall.of (new_c L) [] 0 ?_
  simp -dsimp
  have kT : TapeOK (L.take 600, 0) := tape_new L hL
  refine ACall.of (table0_c _ kT) [.o 10] 0 ?_
  have hc := gTab0_ok (L.take 600, 0)
  have hs := chk_sm hc
  have hbl := hs.rows
  generalize (gTab0 (L.take 600, 0)).1 = b at hc hs hbl ⊢
  generalize (gTab0 (L.take 600, 0)).2 = T1
  simp -dsimp [tblT, rwsD_eq]
  refine ACall.of (check11_c b hs.rows hs.nx) [] 0 ?_
  rw [hc]
  simp -dsimp [tblT, rwsD_eq]
  and_intros
  all_goals try first | rfl | omega | exact ⟨by kernel_rfl⟩
  refine ALoop.of [] (fun k => k == 0 || k == 2 || k == 3 || k == 4 || k == 5 || k == 6 || k == 7 || k == 8 || k == 9 || k == 10 || k == 11 || k == 12 || k == 13 || k == 14 || k == 21 || k == 23 || k == 30 || k == 61 || k == 67 || k == 77 || k == 130 || k == 152 || k == 157) (ι := { i : Nat // i ≤ 3 ∧ True }) (fun z => [(Pl.s 0, It.v (TV.d (ints L))), (Pl.s 2, It.v (TV.d (D.bool false))), (Pl.o 10, tapeI T1), (Pl.s 3, It.v (TV.ptr (Pl.o 10) 0)), (Pl.o 4, It.box [TV.d (D.int IntKind.i64 b.r), TV.d (D.int IntKind.i64 b.sd), TV.d (D.int IntKind.i64 b.len), TV.d (D.sl (rws b.rows))]), (Pl.s 4, It.v (TV.ptr (Pl.o 4) 0)), (Pl.s 5, It.v (TV.d (D.int IntKind.i64 z.1)))]) (fun z => 3 - z.1) ⟨0, by omega, trivial⟩ ?_ ?_
  · exact GS.to (by simp)
  rintro ⟨s, s1, _⟩
  by_cases hs3 : s < 3
  · have hsz : (s : Int) < 3 := by omega
    simp -dsimp [hsz]
    refine ALoop.of [] (fun k => k == 0 || k == 2 || k == 3 || k == 4 || k == 5 || k == 6 || k == 7 || k == 8 || k == 9 || k == 10 || k == 11 || k == 12 || k == 13 || k == 14 || k == 21 || k == 23 || k == 30 || k == 61 || k == 67 || k == 77 || k == 130 || k == 152 || k == 157) (ι := { i : Nat // i ≤ b.rows.length ∧ True }) (fun z => [(Pl.s 0, It.v (TV.d (ints L))), (Pl.s 2, It.v (TV.d (D.bool false))), (Pl.o 10, tapeI T1), (Pl.s 3, It.v (TV.ptr (Pl.o 10) 0)), (Pl.o 4, It.box [TV.d (D.int IntKind.i64 b.r), TV.d (D.int IntKind.i64 b.sd), TV.d (D.int IntKind.i64 b.len), TV.d (D.sl (rws b.rows))]), (Pl.s 4, It.v (TV.ptr (Pl.o 4) 0)), (Pl.s 5, It.v (TV.d (D.int IntKind.i64 s))), (Pl.s 6, It.v (TV.d (bv (wantN b s z.1)))), (Pl.s 7, It.v (TV.d (D.int IntKind.i64 z.1)))]) (fun z => b.rows.length - z.1) ⟨0, by omega, trivial⟩ ?_ ?_
    · exact GS.to (by simp [bv, wantN])
    rintro ⟨i, i1, _⟩
    by_cases hi : i < b.rows.length
    · have hiz : (i : Int) < b.rows.length := by omega
      have hx : b.rows[i]? = some b.rows[i] := List.getElem?_eq_getElem hi
      have hxm : b.rows[i] ∈ b.rows := List.getElem_mem hi
      have ht : wantN b s (i + 1) = wantS b s (wantN b s i) b.rows[i] := by
        rw [wantN, List.take_add_one, List.getElem?_eq_getElem hi, List.foldl_append]; rfl
      generalize b.rows[i] = x at hx hxm ht
      generalize wantN b s i = W at ht ⊢
      have hx' := rws_get hx
      have hok := rows_len hc hxm
      have hnl := hs.nx x hxm
      have hpl := plB x.id b.len
      simp -dsimp [hiz, hx']
      and_intros
      all_goals try first | rfl | omega | exact ⟨by kernel_rfl⟩
      refine ACall.of (place10_c x.id b.len) [] 0 ?_
      rw [placeT, hok.1, hok.2]
      unfold wantS at ht
      generalize plSet x.id b.len = st at ht hpl ⊢
      generalize plBit x.id b.len = bt at ht hpl ⊢
      by_cases h1 : st = s
      · by_cases h2 : 0 < x.nx.length
        · rw [if_pos ⟨h1, h2⟩] at ht
          simp -dsimp [hiz, hx', eq_true h1, h2, ints, bv]
          and_intros
          all_goals try first | rfl | omega | exact ⟨by kernel_rfl⟩
          refine ACall.of (bit_c bt) [] 0 ?_
          simp -dsimp [hiz, hx', eq_true h1, h2, ints, bv, wrap_i64 (n := (i : Int) + 1) (by omega) (by omega)]
          and_intros
          all_goals try first | rfl | omega | exact ⟨by kernel_rfl⟩
          exact ⟨⟨i + 1, by omega, trivial⟩, GS.to (by simp [ints, ht, bv]), by simp; omega⟩
        · rw [if_neg (fun h => h2 h.2)] at ht
          simp -dsimp [hiz, hx', eq_true h1, h2, ints, wrap_i64 (n := (i : Int) + 1) (by omega) (by omega)]
          and_intros
          all_goals try first | rfl | omega | exact ⟨by kernel_rfl⟩
          exact ⟨⟨i + 1, by omega, trivial⟩, GS.to (by simp [ints, ht, bv]), by simp; omega⟩
      · rw [if_neg (fun h => h1 h.1)] at ht
        simp -dsimp [hiz, hx', eq_false h1, ints, wrap_i64 (n := (i : Int) + 1) (by omega) (by omega)]
        and_intros
        all_goals try first | rfl | omega | exact ⟨by kernel_rfl⟩
        exact ⟨⟨i + 1, by omega, trivial⟩, GS.to (by simp [ints, ht, bv]), by simp; omega⟩
    · have hiz : ¬ (i : Int) < b.rows.length := by omega
      obtain rfl : i = b.rows.length := by omega
      have hW : wantN b s b.rows.length = want b s := by rw [wantN, List.take_length]; rfl
      rw [hW]
      generalize hw : want b s = W
      simp -dsimp [hiz]
      as_aux_lemma =>
      refine ALoop.of [] (fun k => k == 0 || k == 2 || k == 3 || k == 4 || k == 5 || k == 6 || k == 7 || k == 8 || k == 9 || k == 10 || k == 11 || k == 12 || k == 13 || k == 14 || k == 21 || k == 23 || k == 30 || k == 61 || k == 67 || k == 77 || k == 130 || k == 152 || k == 157) (ι := { i : Nat // i ≤ 8 ∧ True }) (fun z => [(Pl.s 0, It.v (TV.d (ints L))), (Pl.s 2, It.v (TV.d (D.bool false))), (Pl.o 10, tapeI T1), (Pl.s 3, It.v (TV.ptr (Pl.o 10) 0)), (Pl.o 4, It.box [TV.d (D.int IntKind.i64 b.r), TV.d (D.int IntKind.i64 b.sd), TV.d (D.int IntKind.i64 b.len), TV.d (D.sl (rws b.rows))]), (Pl.s 4, It.v (TV.ptr (Pl.o 4) 0)), (Pl.s 5, It.v (TV.d (D.int IntKind.i64 s))), (Pl.s 6, It.v (TV.d (bv W))), (Pl.s 11, It.v (TV.d (D.int IntKind.i64 z.1)))]) (fun z => 8 - z.1) ⟨0, by omega, trivial⟩ ?_ ?_
      · exact GS.to (by simp [ints])
      rintro ⟨p, p1, _⟩
      by_cases hp : p < 8
      · have hpz : (p : Int) < 8 := by omega
        have hv : valB b p s = true := valB_iff.2 ⟨hc, by omega, by omega⟩
        have hself := mask_self hv
        have hor := orAll_want hv
        rw [hw] at hor
        have hat := fun (i : Nat) (e : Int × BitVec 64) (he : (allP b p s)[i]? = some e) => divide_at hv he
        have hlen := allP_len hs p s
        have hall := all_c b hs p s
        generalize allP b p s = P at hor hat hlen hall
        simp -dsimp [hpz, bv]
        refine ACall.of hall [] 0 ?_
        simp -dsimp [hpz, bv, tblT, rwsD_eq]
        as_aux_lemma =>
        refine ALoop.of [] (fun k => k == 0 || k == 2 || k == 3 || k == 4 || k == 5 || k == 6 || k == 7 || k == 8 || k == 9 || k == 10 || k == 11 || k == 12 || k == 13 || k == 14 || k == 21 || k == 23 || k == 30 || k == 61 || k == 67 || k == 77 || k == 130 || k == 152 || k == 157) (ι := { i : Nat // i ≤ P.length ∧ True }) (fun z => [(Pl.s 0, It.v (TV.d (ints L))), (Pl.s 2, It.v (TV.d (D.bool false))), (Pl.o 10, tapeI T1), (Pl.s 3, It.v (TV.ptr (Pl.o 10) 0)), (Pl.o 4, It.box [TV.d (D.int IntKind.i64 b.r), TV.d (D.int IntKind.i64 b.sd), TV.d (D.int IntKind.i64 b.len), TV.d (D.sl (rws b.rows))]), (Pl.s 4, It.v (TV.ptr (Pl.o 4) 0)), (Pl.s 5, It.v (TV.d (D.int IntKind.i64 s))), (Pl.s 6, It.v (TV.d (bv W))), (Pl.s 11, It.v (TV.d (D.int IntKind.i64 p))), (Pl.s 12, It.v (TV.d (bv (orAll (P.take z.1))))), (Pl.s 13, It.v (TV.d (.sl (mks P)))), (Pl.s 14, It.v (TV.d (D.int IntKind.i64 z.1)))]) (fun z => P.length - z.1) ⟨0, by omega, trivial⟩ ?_ ?_
        · exact GS.to (by simp [mskD, mks, bv, orAll])
        rintro ⟨i, i1, _⟩
        by_cases hi : i < P.length
        · have hiz : (i : Int) < P.length := by omega
          have hx : P[i]? = some P[i] := List.getElem?_eq_getElem hi
          generalize P[i] = e at hx
          obtain ⟨d1, d2, d3, d4, d5⟩ := hat i e hx
          have hx' := mks_get hx
          generalize orAll (P.take i) = O at d1 d5 ⊢
          by_cases h0 : i = 0
          · have h0z : ¬ 0 < i := by omega
            simp -dsimp [hiz, hx', h0z, d1, d2, bv]
            and_intros
            all_goals try first | rfl | omega | exact ⟨by kernel_rfl⟩
            refine ACall.of (mask_c b hs p s e.1) [] 0 ?_
            rw [d3]
            simp -dsimp [hiz, hx', h0z, d1, d2, bv, tblT, rwsD_eq]
            and_intros
            all_goals try first | rfl | omega | exact ⟨by kernel_rfl⟩
            simp -dsimp [hiz, hx', h0z, d1, d2, bv, tblT, rwsD_eq, wrap_i64 (n := (i : Int) + 1) (by omega) (by omega)]
            and_intros
            all_goals try first | rfl | omega | exact ⟨by kernel_rfl⟩
            exact ⟨⟨i + 1, by omega, trivial⟩, GS.to (by simp [ints, bv, d5]), by simp; omega⟩
          · have h0z : 0 < i := by omega
            have hy : P[i - 1]? = some P[i - 1] := List.getElem?_eq_getElem (by omega)
            generalize P[i - 1] = f at hy
            have hlt := d4 f (by omega) hy
            have hy' := mks_get hy
            have hle : ¬ e.1 ≤ f.1 := by omega
            have hi1 : ((i : Int) - 1).toNat = i - 1 := by omega
            simp -dsimp [hiz, hx', hy', h0z, h0, hi1, hle, d1, d2, bv, wrap_i64 (n := (i : Int) - 1) (by omega) (by omega)]
            and_intros
            all_goals try first | rfl | omega | exact ⟨by kernel_rfl⟩
            refine ACall.of (mask_c b hs p s e.1) [] 0 ?_
            rw [d3]
            simp -dsimp [hiz, hx', h0z, d1, d2, bv, tblT, rwsD_eq]
            and_intros
            all_goals try first | rfl | omega | exact ⟨by kernel_rfl⟩
            simp -dsimp [hiz, hx', h0z, d1, d2, bv, tblT, rwsD_eq, wrap_i64 (n := (i : Int) + 1) (by omega) (by omega)]
            and_intros
            all_goals try first | rfl | omega | exact ⟨by kernel_rfl⟩
            exact ⟨⟨i + 1, by omega, trivial⟩, GS.to (by simp [ints, bv, d5]), by simp; omega⟩
        · have hiz : ¬ (i : Int) < P.length := by omega
          obtain rfl : i = P.length := by omega
          rw [List.take_length, hor]
          simp -dsimp [hiz, bv]
          refine ACall.of (mask_c b hs p s b.r) [] 0 ?_
          simp -dsimp [hiz, bv, tblT, rwsD_eq]
          refine ACall.of (local_c b hs s) [] 0 ?_
          rw [hself]
          simp -dsimp [hiz, bv, tblT, rwsD_eq, wrap_i64 (n := (p : Int) + 1) (by omega) (by omega)]
          and_intros
          all_goals try first | rfl | omega | exact ⟨by kernel_rfl⟩
          exact ⟨⟨p + 1, by omega, trivial⟩, GS.to (by simp [ints, bv]), by simp; omega⟩
      · obtain rfl : p = 8 := by omega
        simp -dsimp [bv]
        refine ACall.of (reach_c b hs s) [] 0 ?_
        have hv : valB b 0 s = true := valB_iff.2 ⟨hc, by omega, by omega⟩
        rw [orAll_reach hv, hw]
        simp -dsimp [bv, tblT, rwsD_eq, wrap_i64 (n := (s : Int) + 1) (by omega) (by omega)]
        exact ⟨⟨s + 1, by omega, trivial⟩, GS.to (by simp [ints, bv]), by simp; omega⟩
  · obtain rfl : s = 3 := by omega
    simp -dsimp
    refine ACall.of awake_c [] 0 ?_
    simp -dsimp
    refine Fin.of ?_
    simp
end Go.Proofs
