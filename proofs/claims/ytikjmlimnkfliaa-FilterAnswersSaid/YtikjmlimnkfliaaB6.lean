/-
  What functions of the program compute, stated as contracts over plain data; the conditions of each stand in its own statement.
-/
import Derived.Test.YtikjmlimnkfliaaB5
import Derived.Test.YtikjmlimnkfliaaT26
set_option linter.unusedSimpArgs false
set_option maxRecDepth 100000
set_option maxHeartbeats 4000000
namespace Go.Proofs
open Go Go.Tr

def cellsF (f : Flt) : List D := [.int .i64 f.m, ints f.s]
theorem gBent_ok (T : Tp) (f : Flt) : TapeOK (gBent T f).2 = TapeOK T := by
  simp only [gBent]
  split
  · simp
  · split
    · simp
    · split
      · simp
      · split <;> simp
theorem gBent_len (T : Tp) (f : Flt) : (gBent T f).1.s.length ≤ f.s.length + 1 := by
  simp only [gBent]
  split
  · simp
  · split
    · simp
    · split
      · simp; omega
      · split <;> simp
theorem answers_law (t : List Int) (raw other : Flt) (source : Int) (ht : ∀ x ∈ t, I64 x) (hr : raw.s.length ≤ 9223372036854775807) (ho : other.s.length ≤ 9223372036854775807) :
    Contract Try.prog 6 [.d (ints t), fltT raw, fltT other, .d (.int .i64 source)] [] (.d (.bool true)) [] [] := by
  refine contract_of Try.func6 rfl (fun E0 => ?_)
  refine awp.sound (g := .mk) (ow := []) (kp := (fun k => k == 0 || k == 1 || k == 2 || k == 3 || k == 5 || k == 6 || k == 8 || k == 9 || k == 10 || k == 11 || k == 13 || k == 15 || k == 16 || k == 17 || k == 18 || k == 19 || k == 21 || k == 22 || k == 23 || k == 24 || k == 25 || k == 26 || k == 27 || k == 28 || k == 29 || k == 39 || k == 53 || k == 54 || k == 55 || k == 56 || k == 63 || k == 69 || k == 70 || k == 71 || k == 72 || k == 81 || k == 101 || k == 105 || k == 106 || k == 107 || k == 108 || k == 172)) ?_
  rw [Try.ntmps6]
  by_cases hb : raw.s.length ≤ 110 ∧ other.s.length ≤ 110
  · obtain ⟨hb1, hb2⟩ := hb
    have hz1 : ¬ (110 : Int) < raw.s.length := by omega
    have hz2 : ¬ (110 : Int) < other.s.length := by omega
    simp -dsimp [fltT, ints, hz1, hz2]
    have k0 : TapeOK (t.take 2000, 0) := ⟨by simp; omega, fun x hx => ht x (List.mem_of_mem_take hx)⟩
    refine ACall.of (new_c t) [] 2000 ?_
    generalize (t.take 2000, 0) = T0 at k0 ⊢
    simp -dsimp [fltT, ints]
    refine ACall.of (filter_c T0 k0) [.o 2009] 0 ?_
    have oka := gFlt_flt T0
    have k1 : TapeOK (gFlt T0).2 := by simpa using k0
    generalize gFlt T0 = R0 at oka k1 ⊢
    obtain ⟨a, T1⟩ := R0
    simp only at oka k1 ⊢
    simp -dsimp [fltT, ints]
    refine ACall.of (filter_c T1 k1) [.o 2009] 0 ?_
    have okb := gFlt_flt T1
    have k2 : TapeOK (gFlt T1).2 := by simpa using k1
    generalize gFlt T1 = R1 at okb k2 ⊢
    obtain ⟨b, T2⟩ := R1
    simp only at okb k2 ⊢
    simp -dsimp [fltT, ints]
    refine ACall.of (bent_c T2 k2 a (Nat.le_trans (ok_len oka) (by omega))) [.o 2009] 0 ?_
    have hbl := gBent_len T2 a
    have k3 : TapeOK (gBent T2 a).2 := by rw [gBent_ok]; exact k2
    generalize gBent T2 a = R2 at hbl k3 ⊢
    obtain ⟨e, T3⟩ := R2
    simp only at hbl k3 ⊢
    simp -dsimp [fltT, ints]
    and_intros
    all_goals try first | rfl | omega | exact ⟨by kernel_rfl⟩
    as_aux_lemma =>
    refine ALoop.of [] (fun k => k == 0 || k == 1 || k == 2 || k == 3 || k == 5 || k == 6 || k == 8 || k == 9 || k == 10 || k == 11 || k == 13 || k == 15 || k == 16 || k == 17 || k == 18 || k == 19 || k == 21 || k == 22 || k == 23 || k == 24 || k == 25 || k == 26 || k == 27 || k == 28 || k == 29 || k == 39 || k == 53 || k == 54 || k == 55 || k == 56 || k == 63 || k == 69 || k == 70 || k == 71 || k == 72 || k == 81 || k == 101 || k == 105 || k == 106 || k == 107 || k == 108 || k == 172) (ι := { z : Nat × Tp // z.1 ≤ 4 ∧ TapeOK z.2 })
      (fun z => [(Pl.s 3, It.v (TV.d (D.int IntKind.i64 source))), (Pl.o 6, It.box [TV.d (D.int IntKind.i64 other.m), TV.d (ints other.s)]), (Pl.s 6, It.v (TV.ptr (Pl.o 6) 0)), (Pl.s 8, It.v (TV.d (D.bool false))),
        (Pl.o 2009, tapeI z.1.2), (Pl.s 9, It.v (TV.ptr (Pl.o 2009) 0)), (Pl.o 10, It.box [TV.d (D.int IntKind.i64 a.m), TV.d (ints a.s)]), (Pl.s 10, It.v (TV.ptr (Pl.o 10) 0)),
        (Pl.o 11, It.box [TV.d (D.int IntKind.i64 b.m), TV.d (ints b.s)]), (Pl.s 11, It.v (TV.ptr (Pl.o 11) 0)),
        (Pl.s 53, It.v (TV.d (D.sl ([raw, a, b, e].map cellsF)))), (Pl.s 54, It.v (TV.d (D.int IntKind.i64 4))), (Pl.s 55, It.v (TV.d (D.int IntKind.i64 z.1.1)))]) (fun z => 4 - z.1.1) ⟨(0, T3), by simp, k3⟩ ?_ ?_
    · exact GS.to (by simp [cellsF, ints])
    · rintro ⟨⟨i, T⟩, i1, kT⟩
      simp only at i1 kT
      have la := Nat.le_trans (ok_len oka) (show 99 ≤ 10000 by omega)
      have lb := Nat.le_trans (ok_len okb) (show 99 ≤ 10000 by omega)
      have hxl : ∀ x ∈ [raw, a, b, e], x.s.length ≤ 10000 := by
        intro x hx
        simp only [List.mem_cons, List.not_mem_nil, or_false] at hx
        have := ok_len oka
        rcases hx with rfl | rfl | rfl | rfl <;> omega
      have hxn : [raw, a, b, e].length = 4 := rfl
      have lo : other.s.length ≤ 10000 := by omega
      generalize [raw, a, b, e] = xs at hxl hxn ⊢
      clear hb1 hb2 hz1 hz2 hr hbl k0 k1 k2 k3 ht
      by_cases hi : i < 4
      · have hix : i < xs.length := by omega
        have hiz : (i : Int) < 4 := by omega
        have hg : xs[i]? = some xs[i] := List.getElem?_eq_getElem hix
        have hx := hxl xs[i] (List.getElem_mem hix)
        generalize xs[i] = x at hg hx
        simp -dsimp [hg, hiz, hxn, hix, cellsF]
        refine ACall.of (validate_c x (by omega)) [] 0 ?_
        simp -dsimp [fltT]
        refine ACall.of (rvalidate_c x (by omega)) [] 0 ?_
        simp -dsimp [fltT]
        and_intros
        all_goals try first | rfl | omega | exact ⟨by kernel_rfl⟩
        have c1 := gRange_lo T 0 101
        have c2 := gRange_hi T (a := 0) (b := 101) (by omega)
        refine ACall.of (range_c T kT 0 101 ⟨by omega, by omega⟩ ⟨by omega, by omega⟩ ⟨by omega, by omega⟩ ⟨by omega, by omega⟩) [.o 2009] 0 ?_
        have kP : TapeOK (gRange T 0 101).2 := by simpa using kT
        generalize gRange T 0 101 = P at kP ⊢
        simp -dsimp
        have d1 := gRange_lo P.2 1 6
        have d2 := gRange_hi P.2 (a := 1) (b := 6) (by omega)
        refine ACall.of (range_c P.2 kP 1 6 ⟨by omega, by omega⟩ ⟨by omega, by omega⟩ ⟨by omega, by omega⟩ ⟨by omega, by omega⟩) [.o 2009] 0 ?_
        have kQ : TapeOK (gRange P.2 1 6).2 := by simpa using kP
        generalize gRange P.2 1 6 = Q at kQ ⊢
        simp -dsimp
        and_intros
        all_goals try first | rfl | omega | exact ⟨by kernel_rfl⟩
        as_aux_lemma =>
        refine ALoop.of [] (fun k => k == 0 || k == 1 || k == 2 || k == 3 || k == 5 || k == 6 || k == 8 || k == 9 || k == 10 || k == 11 || k == 13 || k == 15 || k == 16 || k == 17 || k == 18 || k == 19 || k == 21 || k == 22 || k == 23 || k == 24 || k == 25 || k == 26 || k == 27 || k == 28 || k == 29 || k == 39 || k == 53 || k == 54 || k == 55 || k == 56 || k == 63 || k == 69 || k == 70 || k == 71 || k == 72 || k == 81 || k == 101 || k == 105 || k == 106 || k == 107 || k == 108 || k == 172) (ι := { z : Nat // z ≤ 3 })
          (fun z => [(Pl.s 3, It.v (TV.d (D.int IntKind.i64 source))), (Pl.o 6, It.box [TV.d (D.int IntKind.i64 other.m), TV.d (ints other.s)]), (Pl.s 6, It.v (TV.ptr (Pl.o 6) 0)), (Pl.s 8, It.v (TV.d (D.bool false))),
            (Pl.o 2009, tapeI Q.2), (Pl.s 9, It.v (TV.ptr (Pl.o 2009) 0)), (Pl.o 10, It.box [TV.d (D.int IntKind.i64 a.m), TV.d (ints a.s)]), (Pl.s 10, It.v (TV.ptr (Pl.o 10) 0)),
            (Pl.o 11, It.box [TV.d (D.int IntKind.i64 b.m), TV.d (ints b.s)]), (Pl.s 11, It.v (TV.ptr (Pl.o 11) 0)),
            (Pl.s 53, It.v (TV.d (D.sl (xs.map cellsF)))), (Pl.s 54, It.v (TV.d (D.int IntKind.i64 4))), (Pl.s 55, It.v (TV.d (D.int IntKind.i64 i))),
            (Pl.o 13, It.box [TV.d (D.int IntKind.i64 x.m), TV.d (ints x.s)]), (Pl.s 13, It.v (TV.ptr (Pl.o 13) 0)),
            (Pl.s 69, It.v (TV.d (ints [source, P.1, Q.1]))), (Pl.s 70, It.v (TV.d (D.int IntKind.i64 3))), (Pl.s 71, It.v (TV.d (D.int IntKind.i64 z.1)))]) (fun z => 3 - z.1) ⟨0, by omega⟩ ?_ ?_
        · exact GS.to (by simp [ints])
        · rintro ⟨j, j1⟩
          have hkn : [source, P.1, Q.1].length = 3 := rfl
          generalize [source, P.1, Q.1] = ks at hkn ⊢
          by_cases hj : j < 3
          · have hjx : j < ks.length := by omega
            have hjz : (j : Int) < 3 := by omega
            have hgj : ks[j]? = some ks[j] := List.getElem?_eq_getElem hjx
            generalize ks[j] = k at hgj
            simp -dsimp [hgj, hjz, hkn, hjx, ints]
            refine ACall.of (fwants_c x (by omega) k) [] 0 ?_
            simp -dsimp [fltT, ints]
            refine ACall.of (rwants_c x (by omega) k) [] 0 ?_
            simp -dsimp [fltT, ints, wrap_i64 (n := (j : Int) + 1) (by omega) (by omega)]
            and_intros
            all_goals try first | rfl | omega | exact ⟨by kernel_rfl⟩
            exact ⟨⟨j + 1, by omega⟩, GS.to (by simp [ints]), by simp; omega⟩
          · obtain rfl : j = 3 := by omega
            simp -dsimp
            refine ACall.of (complement_c x hx) [] 0 ?_
            generalize hn : comb kNot x x = N
            simp -dsimp [fltT]
            have hcc := rcomplement_c x (by omega)
            rw [← comb_not, hn] at hcc
            refine ACall.of hcc [] 0 ?_
            simp -dsimp [fltT]
            as_aux_lemma =>
            have hnl := comb_len (K := kNot) (a := x) (b := x)
            rw [hn] at hnl
            have hcs := rsame_c N.1 N.1 (by omega)
            simp only [decide_true, Bool.and_self] at hcs
            refine ACall.of hcs [] 0 ?_
            simp -dsimp [fltT]
            and_intros
            all_goals try first | rfl | omega | exact ⟨by kernel_rfl⟩
            as_aux_lemma =>
            refine ALoop.of [] (fun k => k == 0 || k == 1 || k == 2 || k == 3 || k == 5 || k == 6 || k == 8 || k == 9 || k == 10 || k == 11 || k == 13 || k == 15 || k == 16 || k == 17 || k == 18 || k == 19 || k == 21 || k == 22 || k == 23 || k == 24 || k == 25 || k == 26 || k == 27 || k == 28 || k == 29 || k == 39 || k == 53 || k == 54 || k == 55 || k == 56 || k == 63 || k == 69 || k == 70 || k == 71 || k == 72 || k == 81 || k == 101 || k == 105 || k == 106 || k == 107 || k == 108 || k == 172) (ι := { z : Nat // z ≤ 3 })
              (fun z => [(Pl.s 3, It.v (TV.d (D.int IntKind.i64 source))), (Pl.o 6, It.box [TV.d (D.int IntKind.i64 other.m), TV.d (ints other.s)]), (Pl.s 6, It.v (TV.ptr (Pl.o 6) 0)), (Pl.s 8, It.v (TV.d (D.bool false))),
                (Pl.o 2009, tapeI Q.2), (Pl.s 9, It.v (TV.ptr (Pl.o 2009) 0)), (Pl.o 10, It.box [TV.d (D.int IntKind.i64 a.m), TV.d (ints a.s)]), (Pl.s 10, It.v (TV.ptr (Pl.o 10) 0)),
                (Pl.o 11, It.box [TV.d (D.int IntKind.i64 b.m), TV.d (ints b.s)]), (Pl.s 11, It.v (TV.ptr (Pl.o 11) 0)),
                (Pl.s 53, It.v (TV.d (D.sl (xs.map cellsF)))), (Pl.s 54, It.v (TV.d (D.int IntKind.i64 4))), (Pl.s 55, It.v (TV.d (D.int IntKind.i64 i))),
                (Pl.o 13, It.box [TV.d (D.int IntKind.i64 x.m), TV.d (ints x.s)]), (Pl.s 13, It.v (TV.ptr (Pl.o 13) 0)),
                (Pl.s 105, It.v (TV.d (D.sl ([other, a, b].map cellsF)))), (Pl.s 106, It.v (TV.d (D.int IntKind.i64 3))), (Pl.s 107, It.v (TV.d (D.int IntKind.i64 z.1)))]) (fun z => 3 - z.1) ⟨0, by omega⟩ ?_ ?_
            · exact GS.to (by simp [cellsF])
            · rintro ⟨l, l1⟩
              have hyl : ∀ y ∈ [other, a, b], y.s.length ≤ 10000 := by
                intro y hy
                simp only [List.mem_cons, List.not_mem_nil, or_false] at hy
                rcases hy with rfl | rfl | rfl <;> omega
              have hyn : [other, a, b].length = 3 := rfl
              generalize [other, a, b] = ys at hyl hyn ⊢
              by_cases hl : l < 3
              · have hlx : l < ys.length := by omega
                have hlz : (l : Int) < 3 := by omega
                have hgl : ys[l]? = some ys[l] := List.getElem?_eq_getElem hlx
                have hy := hyl ys[l] (List.getElem_mem hlx)
                generalize ys[l] = y at hgl hy
                have cu := union_c x y hx hy
                have ru := runion_c x y (by omega) (by omega)
                rw [← comb_ref] at ru
                have cm := meet_c x y hx hy
                have rm := rmeet_c x y (by omega) (by omega)
                rw [← comb_ref] at rm
                have ul := comb_len (K := kOr) (a := x) (b := y)
                have ml := comb_len (K := kAnd) (a := x) (b := y)
                generalize comb kOr x y = U at cu ru ul
                generalize comb kAnd x y = M at cm rm ml
                have su := rsame_c U.1 U.1 (by omega)
                have sm := rsame_c M.1 M.1 (by omega)
                simp only [decide_true, Bool.and_self] at su sm
                have cw := within_c x y hx hy
                have rw' := rwithin_c x y (by omega) (by omega)
                generalize wth x y = W at cw rw'
                have cs := same_c x y (by omega)
                have rs := rsame_c x y (by omega)
                generalize (decide (x.m = y.m) && decide (x.s = y.s)) = V at cs rs
                simp -dsimp [hgl, hlz, hyn, hlx, cellsF]
                refine ACall.of cu [] 0 ?_
                simp -dsimp [fltT]
                refine ACall.of ru [] 0 ?_
                simp -dsimp [fltT]
                refine ACall.of cm [] 0 ?_
                simp -dsimp [fltT]
                refine ACall.of rm [] 0 ?_
                simp -dsimp [fltT]
                and_intros
                all_goals try first | rfl | omega | exact ⟨by kernel_rfl⟩
                as_aux_lemma =>
                refine ACall.of su [] 0 ?_
                simp -dsimp [fltT]
                refine ACall.of sm [] 0 ?_
                simp -dsimp [fltT]
                refine ACall.of cw [] 0 ?_
                simp -dsimp [fltT]
                refine ACall.of rw' [] 0 ?_
                simp -dsimp [fltT]
                as_aux_lemma =>
                refine ACall.of cs [] 0 ?_
                simp -dsimp [fltT]
                refine ACall.of rs [] 0 ?_
                simp -dsimp [fltT, wrap_i64 (n := (l : Int) + 1) (by omega) (by omega)]
                and_intros
                all_goals try first | rfl | omega | exact ⟨by kernel_rfl⟩
                exact ⟨⟨l + 1, by omega⟩, GS.to (by simp [cellsF]), by simp; omega⟩
              · obtain rfl : l = 3 := by omega
                simp -dsimp [wrap_i64 (n := (i : Int) + 1) (by omega) (by omega)]
                exact ⟨⟨(i + 1, Q.2), by dsimp only; omega, kQ⟩, GS.to (by simp), by simp; omega⟩
      · obtain rfl : i = 4 := by omega
        simp -dsimp
        refine ACall.of awake_c [] 0 ?_
        simp -dsimp
        try refine ⟨?_, ⟨by kernel_rfl⟩⟩
        refine Fin.of ?_
        simp
  · by_cases hb1 : 110 < raw.s.length
    · have hz1 : (110 : Int) < raw.s.length := by omega
      simp -dsimp [fltT, ints, hz1]
      refine ACall.of awake_c [] 0 ?_
      simp -dsimp
      try refine ⟨?_, ⟨by kernel_rfl⟩⟩
      refine Fin.of ?_
      simp
    · have hz1 : ¬ (110 : Int) < raw.s.length := by omega
      have hz2 : (110 : Int) < other.s.length := by omega
      simp -dsimp [fltT, ints, hz1, hz2]
      refine ACall.of awake_c [] 0 ?_
      simp -dsimp
      try refine ⟨?_, ⟨by kernel_rfl⟩⟩
      refine Fin.of ?_
      simp
theorem has_flt {ds : List D} (h : (Ty.st [.int .i64, .sl (.int .i64)]).has ds) : ∃ f : Flt, ds = [.int .i64 f.m, ints f.s] ∧ f.s.length ≤ maxLen := by
  simp only [Ty.has, Ty.hass] at h
  obtain ⟨_, _, rfl, ⟨m, rfl, _⟩, d2, _, rfl, h2, rfl⟩ := h
  have h3 : (Ty.sl (.int .i64)).has d2 := by
    simp only [Ty.has]
    exact h2
  obtain ⟨l, hl, h4, _⟩ := has_ints h3
  subst hl
  exact ⟨⟨m, l⟩, by simp [ints], h4⟩
theorem has_int {ds : List D} (h : (Ty.int .i64).has ds) : ∃ n, ds = [.int .i64 n] := by
  simp only [Ty.has] at h
  obtain ⟨n, rfl, _⟩ := h
  exact ⟨n, rfl⟩
end Go.Proofs
