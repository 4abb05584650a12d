/-
  What functions of the program compute, stated as contracts over plain data; the conditions of each stand in its own statement.
-/
import Derived.Test.YtkhgmgelbgondaaD24
set_option linter.unusedSimpArgs false
set_option maxRecDepth 100000
set_option maxHeartbeats 8000000
namespace Go.Proofs
open Go Go.Tr

theorem rhosts24_c (m : Mbs) (hl : m.l.length ≤ 1000000) (hf : ∀ x ∈ m.l, x.f.s.length ≤ 9223372036854775807) (f : Flw) : Contract Try.prog 36 [mbsT m, flwT f] [] (.d (ints (hostsV m f))) [] [] := by
  have hv := rvalidM_cL m hl hf
  simp only [mbsT] at hv
  refine contract_of Try.func36 rfl (fun E0 => ?_)
  refine awp.sound (g := .mk) (ow := []) (kp := (fun k => k == 0 || k == 1 || k == 2 || k == 3 || k == 4 || k == 5 || k == 7 || k == 10 || k == 12 || k == 13 || k == 14 || k == 15 || k == 36)) ?_
  rw [Try.ntmps36]
  simp -dsimp [mbsT, flwT]
  refine ACall.of hv [] 0 ?_
  by_cases h1 : vldM m = 0
  · simp -dsimp [h1, mems]
    refine ALoop.of [] (fun k => k == 0 || k == 1 || k == 2 || k == 3 || k == 4 || k == 5 || k == 7 || k == 10 || k == 12 || k == 13 || k == 14 || k == 15 || k == 36) (ι := { i : Nat // i ≤ m.l.length })
      (fun z => [(Pl.o 2, It.box [TV.d (D.int IntKind.i64 m.now), TV.d (D.sl (List.map memC m.l))]), (Pl.s 2, It.v (TV.ptr (Pl.o 2) 0)), (Pl.o 3, It.box [TV.d (D.int IntKind.i64 f.s), TV.d (D.int IntKind.i64 f.g)]),
        (Pl.s 3, It.v (TV.ptr (Pl.o 3) 0)), (Pl.s 4, It.v (TV.c (Value.slice none 0 0))),
        (Pl.o 5, It.row 3 1 (dd (nrow .i64 (hostL f (m.l.take z.1)))) false), (Pl.s 5, It.v (TV.oref 5 (hostL f (m.l.take z.1)).length)),
        (Pl.s 12, It.v (TV.d (D.sl (List.map memC m.l)))), (Pl.s 13, It.v (TV.d (D.int IntKind.i64 m.l.length))), (Pl.s 14, It.v (TV.d (D.int IntKind.i64 z.1)))])
      (fun z => m.l.length - z.1) ⟨0, by omega⟩ ?_ ?_
    · exact GS.own' (k := 5) 3 1 (by simp) (by simp) (by simp [nrow, hostL])
    · rintro ⟨i, i1⟩
      have hll := hostL_len f m.l i
      by_cases hi : i < m.l.length
      · have hiz : (i : Int) < m.l.length := by omega
        have hg : m.l[i]? = some m.l[i] := List.getElem?_eq_getElem hi
        have hm : m.l[i] ∈ m.l := List.getElem_mem hi
        generalize m.l[i] = y at hg hm
        have hn := hostL_next (f := f) hg
        have hw := rwants_c y.f (by have := ok_len ((vldM_zero h1).2.2.2.1 y hm); omega) f.s
        simp only [fltT] at hw
        have no : hostQ f y = false → dd (nrow .i64 (hostL f (m.l.take (i + 1)))) = dd (nrow .i64 (hostL f (m.l.take i))) ∧ (hostL f (m.l.take (i + 1))).length = (hostL f (m.l.take i)).length := fun h => by rw [hn, h]; simp
        have yes : hostQ f y = true → dd (nrow .i64 (hostL f (m.l.take (i + 1)))) = dd (nrow .i64 (hostL f (m.l.take i))) ++ [[TV.d (.int .i64 y.h)]] ∧ (hostL f (m.l.take (i + 1))).length = (hostL f (m.l.take i)).length + 1 := fun h => by rw [hn, h]; simp [nrow, dd]
        by_cases b1 : y.g = f.g
        · by_cases b2 : y.h = f.s
          · obtain ⟨n1, n2⟩ := no (by simp [hostQ, b2])
            simp -dsimp [hg, memC, hiz, eq_true b1, eq_true b2, wrap_i64 (n := (i : Int) + 1) (by omega) (by omega)]
            and_intros
            all_goals try first | rfl | omega | exact ⟨by kernel_rfl⟩
            exact ⟨⟨i + 1, by omega⟩, GS.to (by simp [n1, n2]), by simp; omega⟩
          · simp -dsimp [hg, memC, hiz, eq_true b1, b2]
            refine ACall.of hw [] 0 ?_
            rcases (Bool.eq_false_or_eq_true (wntV y.f f.s)).symm with b3 | b3
            · obtain ⟨n1, n2⟩ := no (by simp [hostQ, b3])
              simp -dsimp [b3, wrap_i64 (n := (i : Int) + 1) (by omega) (by omega)]
              and_intros
              all_goals try first | rfl | omega | exact ⟨by kernel_rfl⟩
              exact ⟨⟨i + 1, by omega⟩, GS.to (by simp [n1, n2]), by simp; omega⟩
            · obtain ⟨n1, n2⟩ := yes (by simp [hostQ, b1, b2, b3])
              simp -dsimp [b3, wrap_i64 (n := (i : Int) + 1) (by omega) (by omega)]
              and_intros
              all_goals try first | rfl | omega | exact ⟨by kernel_rfl⟩
              exact ⟨⟨i + 1, by omega⟩, GS.to (by simp [n1, n2]), by simp; omega⟩
        · obtain ⟨n1, n2⟩ := no (by simp [hostQ, b1])
          simp -dsimp [hg, memC, hiz, b1, wrap_i64 (n := (i : Int) + 1) (by omega) (by omega)]
          and_intros
          all_goals try first | rfl | omega | exact ⟨by kernel_rfl⟩
          exact ⟨⟨i + 1, by omega⟩, GS.to (by simp [n1, n2]), by simp; omega⟩
      · have hiz : ¬ (i : Int) < m.l.length := by omega
        obtain rfl : i = m.l.length := by omega
        simp -dsimp [hiz]
        refine Fin.view 4 ?_
        simp -dsimp
        refine Fin.of ?_
        simp [hostsV, h1, ints, nrow]
  · simp -dsimp [h1]
    and_intros
    all_goals try first | rfl | omega | exact ⟨by kernel_rfl⟩
    refine Fin.view 4 ?_
    simp -dsimp
    refine Fin.of ?_
    simp [hostsV, h1, ints]
def putG (l : List Mem) : List Int := (l.map (·.g)).foldl insI []
theorem putG_next {l : List Mem} {i : Nat} {y : Mem} (h : l[i]? = some y) : putG (l.take (i + 1)) = insI (putG (l.take i)) y.g := by
  unfold putG
  rw [List.take_add_one, h]; simp
theorem putG_len (l : List Mem) : (putG l).length ≤ l.length := by
  have := fold_len (l.map (·.g)) []
  simpa [putG] using this
theorem putG_eq {l : List Mem} (h : AscM l) : putG l = gsM l := by
  obtain ⟨h1, h2⟩ := fold_asc (l.map (·.g)) [] .nil
  exact asc_ext h1 (gs_asc h) fun x => by rw [gs_mem h, putG, h2]; simp
theorem rgroups_c (m : Mbs) (hl : m.l.length ≤ 1000000) (hf : ∀ x ∈ m.l, x.f.s.length ≤ 9223372036854775807) : Contract Try.prog 68 [mbsT m] [] (.d (ints (if vldM m = 0 then gsM m.l else []))) [] [] := by
  have hv := rvalidM_cL m hl hf
  simp only [mbsT] at hv
  refine contract_of Try.func68 rfl (fun E0 => ?_)
  refine awp.sound (g := .mk) (ow := []) (kp := (fun k => k == 0 || k == 1 || k == 2 || k == 3 || k == 5 || k == 8 || k == 10 || k == 11 || k == 12 || k == 13)) ?_
  rw [Try.ntmps68]
  simp -dsimp [mbsT]
  refine ACall.of hv [] 0 ?_
  by_cases h1 : vldM m = 0
  · simp -dsimp [h1, mems]
    refine ALoop.of [] (fun k => k == 0 || k == 1 || k == 2 || k == 3 || k == 5 || k == 8 || k == 10 || k == 11 || k == 12 || k == 13) (ι := { i : Nat // i ≤ m.l.length })
      (fun z => [(Pl.s 2, It.v (TV.c (Value.slice none 0 0))), (Pl.s 3, It.v (TV.d (ints (putG (m.l.take z.1))))),
        (Pl.s 10, It.v (TV.d (D.sl (List.map memC m.l)))), (Pl.s 11, It.v (TV.d (D.int IntKind.i64 m.l.length))), (Pl.s 12, It.v (TV.d (D.int IntKind.i64 z.1)))])
      (fun z => m.l.length - z.1) ⟨0, by omega⟩ ?_ ?_
    · refine GS.viewS 3 ?_
      simp [putG, ints]
    · rintro ⟨i, i1⟩
      have hll := putG_len (m.l.take i)
      rw [List.length_take] at hll
      by_cases hi : i < m.l.length
      · have hiz : (i : Int) < m.l.length := by omega
        have hg : m.l[i]? = some m.l[i] := List.getElem?_eq_getElem hi
        generalize m.l[i] = y at hg
        have hput := put_c (putG (m.l.take i)) (by omega) y.g
        rw [← putG_next hg] at hput
        simp -dsimp [hg, memC, hiz]
        refine ACall.of hput [] 0 ?_
        simp -dsimp [wrap_i64 (n := (i : Int) + 1) (by omega) (by omega)]
        and_intros
        all_goals try first | rfl | omega | exact ⟨by kernel_rfl⟩
        exact ⟨⟨i + 1, by omega⟩, GS.to (by simp), by simp; omega⟩
      · have hiz : ¬ (i : Int) < m.l.length := by omega
        obtain rfl : i = m.l.length := by omega
        have e := putG_eq (vldM_zero h1).2.2.2.2.2
        simp -dsimp [hiz]
        refine Fin.of ?_
        simp [h1, e]
  · simp -dsimp [h1]
    refine Fin.view 2 ?_
    simp -dsimp
    refine Fin.of ?_
    simp [h1, ints]
theorem refC_ok {a b : Flt} (ha : a.Ok) (hb : b.Ok) : refC kOr a b = (combR kOr a b, 0) := by
  rw [← comb_ref, comb_ok ha hb]
theorem rof24_c (m : Mbs) (hl : m.l.length ≤ 1000000) (hf : ∀ x ∈ m.l, x.f.s.length ≤ 9223372036854775807) : Contract Try.prog 35 [mbsT m] [] (.tup [.d (wntD (ofR m).1), .d (.int .i64 (ofR m).2)]) [] [] := by
  have hv := rvalidM_cL m hl hf
  have hgr := rgroups_c m hl hf
  simp only [mbsT] at hv hgr
  refine contract_of Try.func35 rfl (fun E0 => ?_)
  refine awp.sound (g := .mk) (ow := []) (kp := (fun k => k == 0 || k == 1 || k == 2 || k == 3 || k == 4 || k == 5 || k == 7 || k == 8 || k == 10 || k == 14 || k == 17 || k == 18 || k == 19 || k == 20 || k == 25 || k == 26 || k == 27 || k == 28 || k == 34 || k == 52)) ?_
  rw [Try.ntmps35]
  simp -dsimp [mbsT]
  refine ACall.of hv [] 0 ?_
  by_cases h1 : vldM m = 0
  · simp -dsimp [h1]
    refine ACall.of hgr [] 0 ?_
    rw [if_pos h1]
    obtain ⟨v1, v2, v3, v4, v5, v6⟩ := vldM_zero h1
    have hgl := gs_len m.l
    obtain ⟨gs, hgs⟩ : ∃ gs, gs = gsM m.l := ⟨_, rfl⟩
    rw [← hgs] at hgl ⊢
    simp -dsimp [h1, ints]
    have hWl : (ofL m.l).length = gs.length := by rw [hgs]; simp [ofL]
    have hWg : ∀ k g, gs[k]? = some g → (ofL m.l)[k]? = some (⟨g, uniF (grp m.l g)⟩ : Wnt) := fun k g h => by
      rw [hgs] at h; rw [ofL, List.getElem?_map, h]; rfl
    have hR : ofR m = if 32 < gs.length then ([], 3) else (ofL m.l, 0) := by
      unfold ofR; rw [if_neg (by simp [h1]), ← hgs]
    generalize ofL m.l = W at hWl hWg hR
    refine ALoop.of [] (fun k => k == 0 || k == 1 || k == 2 || k == 3 || k == 4 || k == 5 || k == 7 || k == 8 || k == 10 || k == 14 || k == 17 || k == 18 || k == 19 || k == 20 || k == 25 || k == 26 || k == 27 || k == 28 || k == 34 || k == 52) (ι := { k : Nat // k ≤ gs.length })
      (fun z => [(Pl.o 1, It.box [TV.d (D.int IntKind.i64 m.now), TV.d (mems m.l)]), (Pl.s 1, It.v (TV.ptr (Pl.o 1) 0)), (Pl.s 2, It.v (TV.c (Value.slice none 0 0))), (Pl.s 3, It.v (TV.d (D.int IntKind.i64 0))),
        (Pl.s 5, It.v (TV.oref 5 z.1)), (Pl.o 5, It.row 53 3 (dd ((W.take z.1).map wntC)) false),
        (Pl.s 17, It.v (TV.d (D.sl (List.map (fun n => [D.int IntKind.i64 n]) gs)))), (Pl.s 18, It.v (TV.d (D.int IntKind.i64 gs.length))), (Pl.s 19, It.v (TV.d (D.int IntKind.i64 z.1)))])
      (fun z => gs.length - z.1) ⟨0, by omega⟩ ?_ ?_
    · exact GS.own' (k := 5) 53 3 (by simp) (by simp) (by simp)
    · rintro ⟨k, k1⟩
      have hN := nothing_c
      simp only [fltT] at hN
      by_cases hk : k < gs.length
      · have hkz : (k : Int) < gs.length := by omega
        have hgk : gs[k]? = some gs[k] := List.getElem?_eq_getElem hk
        have hWk := hWg k _ hgk
        generalize gs[k] = g0 at hgk hWk
        have lk : (W.take k).length = k := by simp; omega
        simp -dsimp [hgk, hkz]
        refine ACall.of hN [] 0 ?_
        simp -dsimp [mems]
        refine ALoop.of [] (fun k => k == 0 || k == 1 || k == 2 || k == 3 || k == 4 || k == 5 || k == 7 || k == 8 || k == 10 || k == 14 || k == 17 || k == 18 || k == 19 || k == 20 || k == 25 || k == 26 || k == 27 || k == 28 || k == 34 || k == 52) (ι := { i : Nat // i ≤ m.l.length })
          (fun z => [(Pl.o 1, It.box [TV.d (D.int IntKind.i64 m.now), TV.d (D.sl (List.map memC m.l))]), (Pl.s 1, It.v (TV.ptr (Pl.o 1) 0)), (Pl.s 2, It.v (TV.c (Value.slice none 0 0))), (Pl.s 3, It.v (TV.d (D.int IntKind.i64 0))),
            (Pl.s 5, It.v (TV.oref 5 k)), (Pl.o 5, It.row 53 3 (dd ((W.take k).map wntC)) false),
            (Pl.s 17, It.v (TV.d (D.sl (List.map (fun n => [D.int IntKind.i64 n]) gs)))), (Pl.s 18, It.v (TV.d (D.int IntKind.i64 gs.length))), (Pl.s 19, It.v (TV.d (D.int IntKind.i64 k))),
            (Pl.s 7, It.v (TV.d (D.int IntKind.i64 g0))),
            (Pl.o 8, It.box [TV.d (D.int IntKind.i64 (uniF (grp (m.l.take z.1) g0)).m), TV.d (ints (uniF (grp (m.l.take z.1) g0)).s)]), (Pl.s 8, It.v (TV.ptr (Pl.o 8) 0)),
            (Pl.s 25, It.v (TV.d (D.sl (List.map memC m.l)))), (Pl.s 26, It.v (TV.d (D.int IntKind.i64 m.l.length))), (Pl.s 27, It.v (TV.d (D.int IntKind.i64 z.1)))])
          (fun z => m.l.length - z.1) ⟨0, by omega⟩ ?_ ?_
        · exact GS.to (by simp [grp, uniF, nF])
        · rintro ⟨i, i1⟩
          by_cases hi : i < m.l.length
          · have hiz : (i : Int) < m.l.length := by omega
            have hg : m.l[i]? = some m.l[i] := List.getElem?_eq_getElem hi
            have hm : m.l[i] ∈ m.l := List.getElem_mem hi
            generalize m.l[i] = y at hg hm
            have hgn : grp (m.l.take (i + 1)) g0 = grp (m.l.take i) g0 ++ (if y.g = g0 then [y] else []) := by
              unfold grp
              rw [List.take_add_one, hg, List.filter_append]
              by_cases e : y.g = g0 <;> simp [e]
            have ho : (uniF (grp (m.l.take i) g0)).Ok := uni_ok (fun x hx => v4 x (List.mem_of_mem_take hx)) g0
            have hyo := v4 y hm
            by_cases b1 : y.g = g0
            · have hun : uniF (grp (m.l.take (i + 1)) g0) = combR kOr (uniF (grp (m.l.take i) g0)) y.f := by
                rw [hgn, if_pos b1]; simp [uniF]
              have hu := runion_c (uniF (grp (m.l.take i) g0)) y.f (by have := ok_len ho; omega) (by have := ok_len hyo; omega)
              rw [refC_ok ho hyo, ← hun] at hu
              simp only [fltT] at hu
              simp -dsimp [hg, memC, hiz, eq_true b1]
              try refine ⟨?_, ⟨by kernel_rfl⟩⟩
              refine ACall.of hu [] 0 ?_
              simp -dsimp [wrap_i64 (n := (i : Int) + 1) (by omega) (by omega)]
              and_intros
              all_goals try first | rfl | omega | exact ⟨by kernel_rfl⟩
              exact ⟨⟨i + 1, by omega⟩, GS.to (by simp), by simp; omega⟩
            · have hun : uniF (grp (m.l.take (i + 1)) g0) = uniF (grp (m.l.take i) g0) := by
                rw [hgn, if_neg b1, List.append_nil]
              simp -dsimp [hg, memC, hiz, b1, wrap_i64 (n := (i : Int) + 1) (by omega) (by omega)]
              and_intros
              all_goals try first | rfl | omega | exact ⟨by kernel_rfl⟩
              exact ⟨⟨i + 1, by omega⟩, GS.to (by simp [hun]), by simp; omega⟩
          · have hiz : ¬ (i : Int) < m.l.length := by omega
            obtain rfl : i = m.l.length := by omega
            have hWn : dd (List.take (k + 1) (List.map wntC W)) = dd (List.take k (List.map wntC W)) ++ [[TV.d (.int .i64 g0), TV.d (.int .i64 (uniF (grp m.l g0)).m), TV.d (ints (uniF (grp m.l g0)).s)]] := by
              rw [List.take_add_one]
              simp [hWk, dd, wntC]
            have lk2 : min k W.length = k := by omega
            simp -dsimp [hiz, lk2, wrap_i64 (n := (k : Int) + 1) (by omega) (by omega)]
            and_intros
            all_goals try first | rfl | omega | exact ⟨by kernel_rfl⟩
            exact ⟨⟨k + 1, by omega⟩, GS.to (by simp [hWn, mems]), by simp; omega⟩
      · have hkz : ¬ (k : Int) < gs.length := by omega
        obtain rfl : k = gs.length := by omega
        have et : W.take gs.length = W := List.take_of_length_le (by omega)
        rw [hR]
        by_cases h2 : 32 < gs.length
        · have h2z : (32 : Int) < gs.length := by omega
          simp -dsimp [hkz, h2z]
          refine ⟨by omega, ?_⟩
          refine Fin.view 2 ?_
          simp -dsimp
          refine Fin.of ?_
          simp [h2, wntD]
        · have h2z : ¬ (32 : Int) < gs.length := by omega
          simp -dsimp [hkz, h2z, et]
          refine ⟨by omega, ?_⟩
          refine Fin.view 2 ?_
          simp -dsimp
          refine ⟨by omega, ?_⟩
          refine Fin.of ?_
          simp [h2, wntD]
  · simp -dsimp [h1]
    and_intros
    all_goals try first | rfl | omega | exact ⟨by kernel_rfl⟩
    refine Fin.view 2 ?_
    simp -dsimp
    refine Fin.of ?_
    simp [ofR, h1, wntD]
end Go.Proofs
