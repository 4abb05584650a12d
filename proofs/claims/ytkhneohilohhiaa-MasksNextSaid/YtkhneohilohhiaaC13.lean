/-
  What functions of the program compute, stated as contracts over plain data; the conditions of each stand in its own statement.
-/
import Derived.Test.YtkhneohilohhiaaC12
set_option linter.unusedSimpArgs false
set_option maxRecDepth 100000
set_option maxHeartbeats 4000000
namespace Go.Proofs
open Go Go.Tr

def orAll (m : Mk) : BitVec 64 := m.foldl (fun o e => o ||| e.2) 0#64
theorem local_c (b : Tb) (hb : b.Sm) (s : Int) : Contract Try.prog 17 [tblT b, .d (.int .i64 s)] [] (.d (bv (maskP b 0 s b.r))) [] [] := by
  refine contract_of Try.func17 rfl (fun E0 => ?_)
  refine awp.sound (g := .mk) (ow := []) (kp := (fun k => k == 0 || k == 1 || k == 2 || k == 4)) ?_
  rw [Try.ntmps17]
  simp -dsimp [tblT]
  refine ACall.of (mask_c b hb 0 s b.r) [] 0 ?_
  simp -dsimp [tblT]
  and_intros
  all_goals try first | rfl | omega | exact ⟨by kernel_rfl⟩
  refine Fin.of ?_
  simp
theorem allP_len {b : Tb} (hb : b.Sm) (p s : Int) : (allP b p s).length ≤ 1000000 := by
  have hb1 := hb.rows
  have hlen := (coll_inv b p s b.rows []).2
  have : (coll b p s).length ≤ b.rows.length := by simpa [coll] using hlen
  unfold allP
  split
  · rw [List.length_map, mkeys_len, mk_len]; omega
  · simp
theorem reach_c (b : Tb) (hb : b.Sm) (s : Int) : Contract Try.prog 19 [tblT b, .d (.int .i64 s)] [] (.d (bv (orAll (allP b 0 s) &&& fullB b.len))) [] [] := by
  refine contract_of Try.func19 rfl (fun E0 => ?_)
  refine awp.sound (g := .mk) (ow := []) (kp := (fun k => k == 0 || k == 1 || k == 2 || k == 4 || k == 5 || k == 7 || k == 10 || k == 11 || k == 12 || k == 13)) ?_
  rw [Try.ntmps19]
  simp -dsimp [tblT]
  refine ACall.of (all_c b hb 0 s) [] 0 ?_
  have hl := allP_len hb 0 s
  generalize allP b 0 s = M at hl ⊢
  simp -dsimp [tblT, mskD]
  and_intros
  all_goals try first | rfl | omega | exact ⟨by kernel_rfl⟩
  refine ALoop.of [] (fun k => k == 0 || k == 1 || k == 2 || k == 4 || k == 5 || k == 7 || k == 10 || k == 11 || k == 12 || k == 13) (ι := { i : Nat // i ≤ M.length })
    (fun z => [(Pl.o 2, It.box [TV.d (D.int IntKind.i64 b.r), TV.d (D.int IntKind.i64 b.sd), TV.d (D.int IntKind.i64 b.len), TV.d (rwsD b.rows)]), (Pl.s 2, It.v (TV.ptr (Pl.o 2) 0)),
      (Pl.s 5, It.v (TV.d (bv (orAll (M.take z.1))))), (Pl.s 10, It.v (TV.d (mskD M))), (Pl.s 11, It.v (TV.d (D.int IntKind.i64 M.length))), (Pl.s 12, It.v (TV.d (D.int IntKind.i64 z.1)))]) (fun z => M.length - z.1) ⟨0, by omega⟩ ?_ ?_
  · exact GS.to (by simp [mskD, orAll, bv])
  · rintro ⟨i, i1⟩
    by_cases hi : i < M.length
    · have hiz : (i : Int) < M.length := by omega
      have hg : M[i]? = some M[i] := List.getElem?_eq_getElem hi
      have hs : orAll (M.take (i + 1)) = orAll (M.take i) ||| M[i].2 := by
        unfold orAll
        rw [List.take_add_one, hg, Option.toList_some, List.foldl_append]; rfl
      generalize M[i] = e at hg hs
      simp -dsimp [mskD, bv, hiz, hg, wrap_i64 (n := (i : Int) + 1) (by omega) (by omega)]
      and_intros
      all_goals try first | rfl | omega | exact ⟨by kernel_rfl⟩
      exact ⟨⟨i + 1, by omega⟩, GS.to (by simp [mskD, hs, bv]), by simp; omega⟩
    · obtain rfl : i = M.length := by omega
      simp -dsimp [bv]
      refine ACall.of (full_c2 b.len) [] 0 ?_
      simp -dsimp [bv]
      and_intros
      all_goals try first | rfl | omega | exact ⟨by kernel_rfl⟩
      refine Fin.of ?_
      simp [bv]
/-- the reference's mask -/
def bitsR (b : Tb) (p s n : Int) : Nat → BitVec 64
  | 0 => 0#64
  | k + 1 => if atB s k b.len = true ∧ 0 < n ∧ hopB b (s * b.len + k + 1) p = n then bitsR b p s n k ||| bitB k else bitsR b p s n k
theorem bits12_c (b : Tb) (hb : b.Sm) (p s n : Int) (hp : 0 ≤ p ∧ p ≤ 7) (hl : b.len ≤ 1000) : Contract Try.prog 51 [tblT b, .d (.int .i64 p), .d (.int .i64 s), .d (.int .i64 n)] [] (.d (bv (bitsR b p s n b.len.toNat))) [] [] := by
  refine contract_of Try.func51 rfl (fun E0 => ?_)
  refine awp.sound (g := .mk) (ow := []) (kp := (fun k => k == 0 || k == 1 || k == 2 || k == 3 || k == 4 || k == 8 || k == 9 || k == 10 || k == 11 || k == 12 || k == 16 || k == 39)) ?_
  rw [Try.ntmps51]
  simp -dsimp [tblT]
  refine ALoop.of [] (fun k => k == 0 || k == 1 || k == 2 || k == 3 || k == 4 || k == 8 || k == 9 || k == 10 || k == 11 || k == 12 || k == 16 || k == 39) (ι := { k : Nat // k ≤ b.len.toNat })
    (fun z => [(Pl.s 1, It.v (TV.d (D.int IntKind.i64 p))), (Pl.s 2, It.v (TV.d (D.int IntKind.i64 s))), (Pl.s 3, It.v (TV.d (D.int IntKind.i64 n))),
      (Pl.o 4, It.box [TV.d (D.int IntKind.i64 b.r), TV.d (D.int IntKind.i64 b.sd), TV.d (D.int IntKind.i64 b.len), TV.d (rwsD b.rows)]), (Pl.s 4, It.v (TV.ptr (Pl.o 4) 0)),
      (Pl.s 8, It.v (TV.d (D.int IntKind.u64 0))), (Pl.s 9, It.v (TV.d (bv (bitsR b p s n z.1)))), (Pl.s 10, It.v (TV.d (D.int IntKind.i64 z.1)))]) (fun z => b.len.toNat - z.1) ⟨0, by omega⟩ ?_ ?_
  · exact GS.to (by simp [bitsR, bv])
  · rintro ⟨k, k1⟩
    by_cases hk : (k : Int) < b.len
    · simp -dsimp [bv, hk]
      refine ACall.of (at10_c s k b.len) [] 0 ?_
      rcases (Bool.eq_false_or_eq_true (atB s k b.len)).symm with c1 | c1
      · have hs : bitsR b p s n (k + 1) = bitsR b p s n k := by simp [bitsR, c1]
        simp -dsimp [bv, atT, c1, wrap_i64 (n := (k : Int) + 1) (by omega) (by omega)]
        and_intros
        all_goals try first | rfl | omega | exact ⟨by kernel_rfl⟩
        exact ⟨⟨k + 1, by omega⟩, GS.to (by simp [hs, bv]), by simp; omega⟩
      · by_cases c2 : 0 < n
        · simp -dsimp [bv, atT, c1, c2]
          and_intros
          all_goals try first | rfl | omega | exact ⟨by kernel_rfl⟩
          refine ACall.of (hop12_c b hb (s * b.len + k + 1) p hp) [] 0 ?_
          by_cases c3 : hopB b (s * b.len + k + 1) p = n
          · have hs : bitsR b p s n (k + 1) = bitsR b p s n k ||| bitB k := by simp [bitsR, c1, c2, c3]
            simp -dsimp [bv, tblT, atT, c1, c2, c3]
            and_intros
            all_goals try first | rfl | omega | exact ⟨by kernel_rfl⟩
            refine ACall.of (bit_c k) [] 0 ?_
            simp -dsimp [bv, wrap_i64 (n := (k : Int) + 1) (by omega) (by omega)]
            and_intros
            all_goals try first | rfl | omega | exact ⟨by kernel_rfl⟩
            exact ⟨⟨k + 1, by omega⟩, GS.to (by simp [hs, bv]), by simp; omega⟩
          · have hs : bitsR b p s n (k + 1) = bitsR b p s n k := by simp [bitsR, c3]
            simp -dsimp [bv, tblT, atT, c1, c2, c3, wrap_i64 (n := (k : Int) + 1) (by omega) (by omega)]
            and_intros
            all_goals try first | rfl | omega | exact ⟨by kernel_rfl⟩
            exact ⟨⟨k + 1, by omega⟩, GS.to (by simp [hs, bv]), by simp; omega⟩
        · have hs : bitsR b p s n (k + 1) = bitsR b p s n k := by simp [bitsR, c2]
          simp -dsimp [bv, atT, c1, c2, wrap_i64 (n := (k : Int) + 1) (by omega) (by omega)]
          and_intros
          all_goals try first | rfl | omega | exact ⟨by kernel_rfl⟩
          exact ⟨⟨k + 1, by omega⟩, GS.to (by simp [hs, bv]), by simp; omega⟩
    · have hkk : b.len.toNat = k := by omega
      simp -dsimp [bv, hk]
      refine Fin.of ?_
      simp [bv, hkk]
def maskR (b : Tb) (p s n : Int) : BitVec 64 := if valB b p s = true ∧ 1 ≤ n ∧ n ≤ 99 then bitsR b p s n b.len.toNat else 0#64
def allR (b : Tb) (p s : Int) (k : Nat) : Mk := (((List.range k).map fun i => (((i : Nat) : Int) + 1, maskR b p s ((i : Nat) + 1)))).filter fun e => decide (e.2 ≠ 0#64)
theorem chk_len {b : Tb} (h : chk b = 0) : validLen b.len = true ∨ b.len = 0 ∧ b.rows.length = 0 := by
  by_cases hh : b.head
  · exact hh.2.2
  · rw [chk_head hh] at h; simp at h
theorem chk_len2 {b : Tb} (h : chk b = 0) : 0 ≤ b.len ∧ b.len ≤ 64 := by
  rcases chk_len h with g | g
  · simp [validLen] at g; omega
  · omega
theorem mask12_c (b : Tb) (hb : b.Sm) (p s n : Int) : Contract Try.prog 27 [tblT b, .d (.int .i64 p), .d (.int .i64 s), .d (.int .i64 n)] [] (.d (bv (maskR b p s n))) [] [] := by
  refine contract_of Try.func27 rfl (fun E0 => ?_)
  refine awp.sound (g := .mk) (ow := []) (kp := (fun k => k == 0 || k == 1 || k == 2 || k == 3 || k == 4 || k == 8 || k == 32)) ?_
  rw [Try.ntmps27]
  simp -dsimp [tblT]
  refine ACall.of (check11_c b hb.rows hb.nx) [] 0 ?_
  by_cases h0 : chk b = 0
  · simp -dsimp [tblT, h0]
    refine ACall.of (plane_c p) [] 0 ?_
    by_cases hp : 0 ≤ p ∧ p ≤ 7
    · have e : inB p 0 7 = true := by simp [inB, hp]
      by_cases h1 : s < 0
      · simp -dsimp [tblT, h0, e, h1]
        and_intros
        all_goals try first | rfl | omega | exact ⟨by kernel_rfl⟩
        refine Fin.of ?_
        have hm : maskR b p s n = 0#64 := if_neg (fun h => by have := (valB_iff.1 h.1).2.2; omega)
        simp [hm, bv]
      · by_cases h2 : 31 < s
        · simp -dsimp [tblT, h0, e, h1, h2]
          and_intros
          all_goals try first | rfl | omega | exact ⟨by kernel_rfl⟩
          refine Fin.of ?_
          have hm : maskR b p s n = 0#64 := if_neg (fun h => by have := (valB_iff.1 h.1).2.2; omega)
          simp [hm, bv]
        · by_cases h3 : n < 1
          · simp -dsimp [tblT, h0, e, h1, h2, h3]
            and_intros
            all_goals try first | rfl | omega | exact ⟨by kernel_rfl⟩
            refine Fin.of ?_
            have hm : maskR b p s n = 0#64 := if_neg (fun h => by omega)
            simp [hm, bv]
          · by_cases h4 : 99 < n
            · simp -dsimp [tblT, h0, e, h1, h2, h3, h4]
              and_intros
              all_goals try first | rfl | omega | exact ⟨by kernel_rfl⟩
              refine Fin.of ?_
              have hm : maskR b p s n = 0#64 := if_neg (fun h => by omega)
              simp [hm, bv]
            · have hl := chk_len2 h0
              simp -dsimp [tblT, h0, e, h1, h2, h3, h4]
              and_intros
              all_goals try first | rfl | omega | exact ⟨by kernel_rfl⟩
              refine ACall.of (bits12_c b hb p s n hp (by omega)) [] 0 ?_
              simp -dsimp [tblT]
              and_intros
              all_goals try first | rfl | omega | exact ⟨by kernel_rfl⟩
              refine Fin.of ?_
              have hm : maskR b p s n = bitsR b p s n b.len.toNat := if_pos ⟨valB_iff.2 ⟨h0, hp, by omega, by omega⟩, by omega, by omega⟩
              simp [hm]
    · have e : inB p 0 7 = false := by
        cases h : inB p 0 7
        · rfl
        · exact absurd (by simpa [inB] using h) hp
      simp -dsimp [tblT, h0, e]
      and_intros
      all_goals try first | rfl | omega | exact ⟨by kernel_rfl⟩
      refine Fin.of ?_
      have hm : maskR b p s n = 0#64 := if_neg (fun h => hp (valB_iff.1 h.1).2.1)
      simp [hm, bv]
  · simp -dsimp [tblT, h0]
    and_intros
    all_goals try first | rfl | omega | exact ⟨by kernel_rfl⟩
    refine Fin.of ?_
    have hm : maskR b p s n = 0#64 := if_neg (fun h => h0 (valB_iff.1 h.1).1)
    simp [hm, bv]
theorem allR_succ (b : Tb) (p s : Int) (k : Nat) : allR b p s (k + 1) = allR b p s k ++ (if maskR b p s ((k : Int) + 1) ≠ 0#64 then [((k : Int) + 1, maskR b p s ((k : Int) + 1))] else []) := by
  unfold allR
  rw [List.range_succ, List.map_append, List.filter_append]
  congr 1
  by_cases h : maskR b p s ((k : Int) + 1) = 0#64 <;> simp [h]
theorem allR_len (b : Tb) (p s : Int) (k : Nat) : (allR b p s k).length ≤ k := by
  unfold allR
  exact Nat.le_trans (List.length_filter_le _ _) (by simp)
theorem tn_zero {B : BitVec 64} : tn B = 0 ↔ B = 0#64 := by
  constructor
  · intro h
    apply BitVec.eq_of_toNat_eq
    simpa [tn] using h
  · rintro rfl; simp [tn]
theorem all12_c (b : Tb) (hb : b.Sm) (p s : Int) : Contract Try.prog 16 [tblT b, .d (.int .i64 p), .d (.int .i64 s)] [] (.d (mskD (allR b p s 99))) [] [] := by
  refine contract_of Try.func16 rfl (fun E0 => ?_)
  refine awp.sound (g := .mk) (ow := []) (kp := (fun k => k == 0 || k == 1 || k == 2 || k == 3 || k == 6 || k == 7 || k == 8 || k == 9 || k == 11 || k == 20)) ?_
  rw [Try.ntmps16]
  simp -dsimp [tblT]
  obtain ⟨F, hF⟩ : ∃ F : Nat → List (List D), ∀ z, F z = (allR b p s z).map fun e => [D.int .i64 e.1, bv e.2] := ⟨_, fun _ => rfl⟩
  have hF0 : F 0 = [] := by rw [hF]; rfl
  have hFl : ∀ z, (F z).length ≤ z := fun z => by rw [hF, List.length_map]; exact allR_len b p s z
  refine ALoop.of [] (fun k => k == 0 || k == 1 || k == 2 || k == 3 || k == 6 || k == 7 || k == 8 || k == 9 || k == 11 || k == 20) (ι := { i : Nat // i ≤ 99 })
    (fun z => [(Pl.s 1, It.v (TV.d (D.int IntKind.i64 p))), (Pl.s 2, It.v (TV.d (D.int IntKind.i64 s))),
      (Pl.o 3, It.box [TV.d (D.int IntKind.i64 b.r), TV.d (D.int IntKind.i64 b.sd), TV.d (D.int IntKind.i64 b.len), TV.d (rwsD b.rows)]), (Pl.s 3, It.v (TV.ptr (Pl.o 3) 0)),
      (Pl.s 6, It.v (TV.c (Value.slice none 0 0))), (Pl.s 7, It.v (TV.oref 7 (F z.1).length)), (Pl.o 7, It.row 42 2 (dd (F z.1)) false), (Pl.s 8, It.v (TV.d (D.int IntKind.i64 (z.1 + 1))))]) (fun z => 99 - z.1) ⟨0, by omega⟩ ?_ ?_
  · exact GS.own' (k := 7) 42 2 (by simp) (by simp) (by simp [hF0])
  · rintro ⟨i, i1⟩
    have hfi := hFl i
    by_cases hi : i < 99
    · have hiz : (i : Int) + 1 ≤ 99 := by omega
      have hs := allR_succ b p s i
      have hFs := hF (i + 1)
      rw [hs, List.map_append, ← hF i] at hFs
      simp -dsimp [hiz]
      refine ACall.of (mask12_c b hb p s ((i : Int) + 1)) [] 0 ?_
      generalize maskR b p s ((i : Int) + 1) = B at hs hFs ⊢
      by_cases h : B = 0#64
      · have hz : tn B = 0 := tn_zero.2 h
        rw [if_neg (not_not_intro h)] at hFs
        simp at hFs
        simp -dsimp [tblT, bv, hz, wrap_i64 (n := (i : Int) + 1 + 1) (by omega) (by omega)]
        and_intros
        all_goals try first | rfl | omega | exact ⟨by kernel_rfl⟩
        exact ⟨⟨i + 1, by omega⟩, GS.to (by simp [hFs]), by simp; omega⟩
      · have hz : ¬ tn B = 0 := fun e => h (tn_zero.1 e)
        rw [if_pos h] at hFs
        simp at hFs
        simp -dsimp [tblT, bv, hz, wrap_i64 (n := (i : Int) + 1 + 1) (by omega) (by omega)]
        and_intros
        all_goals try first | rfl | omega | exact ⟨by kernel_rfl⟩
        exact ⟨⟨i + 1, by omega⟩, GS.to (by simp [hFs, bv]), by simp; omega⟩
    · obtain rfl : i = 99 := by omega
      simp -dsimp
      and_intros
      all_goals try first | rfl | omega | exact ⟨by kernel_rfl⟩
      refine Fin.view 6 ?_
      simp -dsimp
      refine Fin.of ?_
      simp [mskD, hF]
theorem local12_c (b : Tb) (hb : b.Sm) (s : Int) : Contract Try.prog 18 [tblT b, .d (.int .i64 s)] [] (.d (bv (maskR b 0 s b.r))) [] [] := by
  refine contract_of Try.func18 rfl (fun E0 => ?_)
  refine awp.sound (g := .mk) (ow := []) (kp := (fun k => k == 0 || k == 1 || k == 2 || k == 4)) ?_
  rw [Try.ntmps18]
  simp -dsimp [tblT]
  refine ACall.of (mask12_c b hb 0 s b.r) [] 0 ?_
  simp -dsimp [tblT]
  and_intros
  all_goals try first | rfl | omega | exact ⟨by kernel_rfl⟩
  refine Fin.of ?_
  simp
theorem reach12_c (b : Tb) (hb : b.Sm) (s : Int) : Contract Try.prog 20 [tblT b, .d (.int .i64 s)] [] (.d (bv (orAll (allR b 0 s 99)))) [] [] := by
  refine contract_of Try.func20 rfl (fun E0 => ?_)
  refine awp.sound (g := .mk) (ow := []) (kp := (fun k => k == 0 || k == 1 || k == 2 || k == 4 || k == 5 || k == 6 || k == 7 || k == 14)) ?_
  rw [Try.ntmps20]
  simp -dsimp [tblT]
  refine ACall.of (all12_c b hb 0 s) [] 0 ?_
  have hl := allR_len b 0 s 99
  generalize allR b 0 s 99 = M at hl ⊢
  simp -dsimp [tblT, mskD]
  and_intros
  all_goals try first | rfl | omega | exact ⟨by kernel_rfl⟩
  refine ALoop.of [] (fun k => k == 0 || k == 1 || k == 2 || k == 4 || k == 5 || k == 6 || k == 7 || k == 14) (ι := { i : Nat // i ≤ M.length })
    (fun z => [(Pl.s 5, It.v (TV.d (mskD M))), (Pl.s 6, It.v (TV.d (bv (orAll (M.take z.1))))), (Pl.s 7, It.v (TV.d (D.int IntKind.i64 z.1)))]) (fun z => M.length - z.1) ⟨0, by omega⟩ ?_ ?_
  · exact GS.to (by simp [mskD, orAll, bv])
  · rintro ⟨i, i1⟩
    by_cases hi : i < M.length
    · have hiz : (i : Int) < M.length := by omega
      have hg : M[i]? = some M[i] := List.getElem?_eq_getElem hi
      have hs : orAll (M.take (i + 1)) = orAll (M.take i) ||| M[i].2 := by
        unfold orAll
        rw [List.take_add_one, hg, Option.toList_some, List.foldl_append]; rfl
      generalize M[i] = e at hg hs
      simp -dsimp [mskD, bv, hiz, hg, wrap_i64 (n := (i : Int) + 1) (by omega) (by omega)]
      and_intros
      all_goals try first | rfl | omega | exact ⟨by kernel_rfl⟩
      exact ⟨⟨i + 1, by omega⟩, GS.to (by simp [mskD, hs, bv]), by simp; omega⟩
    · obtain rfl : i = M.length := by omega
      simp -dsimp [bv, mskD]
      and_intros
      all_goals try first | rfl | omega | exact ⟨by kernel_rfl⟩
      refine Fin.of ?_
      simp [bv]
end Go.Proofs
