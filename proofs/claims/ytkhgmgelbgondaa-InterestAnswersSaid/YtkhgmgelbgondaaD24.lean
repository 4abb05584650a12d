/-
  What functions of the program compute, stated as contracts over plain data; the conditions of each stand in its own statement.
-/
import Derived.Test.YtkhgmgelbgondaaD23
set_option linter.unusedSimpArgs false
set_option maxRecDepth 100000
set_option maxHeartbeats 8000000
namespace Go.Proofs
open Go Go.Tr

def smlG : List Wnt → Int → Bool
  | [], n => decide (n ≤ 800)
  | x :: l, n => if n < 900 then smlG l (IntKind.i64.wrap (n + x.f.s.length)) else false
theorem smlG_len {l : List Wnt} (h : smlG l l.length = true) : l.length < 900 := by
  cases l with
  | nil => simp
  | cons x l =>
    rw [smlG] at h
    split at h
    · omega
    · simp at h
theorem smlG_hi {l : List Wnt} {n : Int} (h : ¬ n < 900) : smlG l n = false := by
  cases l with
  | nil => simp only [smlG, decide_eq_false_iff_not]; omega
  | cons x l => rw [smlG, if_neg h]
theorem small_c (l : List Wnt) (hl : l.length ≤ 9223372036854775807) (_hf : ∀ x ∈ l, x.f.s.length ≤ 9223372036854775807) : Contract Try.prog 28 [.d (wntD l)] [] (.d (.bool (smlG l l.length))) [] [] := by
  refine contract_of Try.func28 rfl (fun E0 => ?_)
  refine awp.sound (g := .mk) (ow := []) (kp := (fun k => k == 0 || k == 2 || k == 3 || k == 4 || k == 14)) ?_
  rw [Try.ntmps28]
  simp -dsimp [wntD]
  refine ALoop.of [] (fun k => k == 0 || k == 2 || k == 3 || k == 4 || k == 14) (ι := { z : Nat × Int // z.1 ≤ l.length ∧ smlG l l.length = smlG (l.drop z.1) z.2 })
    (fun z => [(Pl.s 0, It.v (TV.d (D.sl (List.map wntC l)))), (Pl.s 3, It.v (TV.d (D.int IntKind.i64 z.1.2))), (Pl.s 4, It.v (TV.d (D.int IntKind.i64 z.1.1)))])
    (fun z => l.length - z.1.1) ⟨(0, l.length), by omega, by simp⟩ ?_ ?_
  · exact GS.to (by simp)
  · rintro ⟨⟨i, n⟩, i1, i2⟩
    simp only at i1 i2
    by_cases hi : i < l.length
    · have hiz : (i : Int) < l.length := by omega
      have hg : l[i]? = some l[i] := List.getElem?_eq_getElem hi
      have hd : l.drop i = l[i] :: l.drop (i + 1) := List.drop_eq_getElem_cons hi
      rw [hd] at i2
      generalize l[i] = y at hg i2
      by_cases b1 : n < 900
      · rw [smlG, if_pos b1] at i2
        simp -dsimp [hg, wntC, ints, hiz, eq_true b1, wrap_i64 (n := (i : Int) + 1) (by omega) (by omega)]
        and_intros
        all_goals try first | rfl | omega | exact ⟨by kernel_rfl⟩
        exact ⟨⟨(i + 1, IntKind.i64.wrap (n + y.f.s.length)), by simp only; omega, i2⟩, GS.to (by simp), by simp; omega⟩
      · rw [smlG_hi b1] at i2
        have b2 : ¬ n ≤ 800 := by omega
        simp -dsimp [hg, wntC, hiz, b1, b2]
        refine Fin.of ?_
        simp [i2, b2]
    · have hiz : ¬ (i : Int) < l.length := by omega
      have e : l.drop i = [] := List.drop_eq_nil_of_le (by omega)
      rw [e, smlG] at i2
      by_cases b2 : n ≤ 800
      · simp -dsimp [hiz, eq_true b2]
        refine Fin.of ?_
        simp [i2, b2]
      · simp -dsimp [hiz, b2]
        refine Fin.of ?_
        simp [i2, b2]
def fillW : Nat → List Wnt
  | 0 => []
  | k + 1 => fillW k ++ [⟨50 + (k : Int), ⟨2, []⟩⟩]
/-- wants in which one thing is changed -/
def gBentW (T : Tp) (l : List Wnt) : List Wnt × Tp :=
  if l.length = 0 then ([⟨(gRange T 0 2).1, (gBent (gFlt (gRange T 0 2).2).2 (gFlt (gRange T 0 2).2).1).1⟩], (gBent (gFlt (gRange T 0 2).2).2 (gFlt (gRange T 0 2).2).1).2)
  else
    let i := gNext T l.length
    let c := gNext i.2 5
    let x := l.getD i.1.toNat ⟨0, nF⟩
    if c.1 = 0 then (l.set i.1.toNat ⟨(gPick c.2 [0, 1, 99, 100]).1, x.f⟩, (gPick c.2 [0, 1, 99, 100]).2)
    else if c.1 = 1 then (l.set i.1.toNat ⟨x.g, (gBent c.2 x.f).1⟩, (gBent c.2 x.f).2)
    else if c.1 = 2 then (l.set i.1.toNat ⟨x.g, nF⟩, c.2)
    else if c.1 = 3 then (l ++ l.take 1, c.2)
    else (l ++ (fillW 33).drop l.length, c.2)
theorem bent24_c (T : Tp) (hT : TapeOK T) (l : List Wnt) (hl : l.length ≤ 30) (hf : ∀ x ∈ l, x.f.s.length ≤ 1000) : Contract Try.prog 29 [.ptr (.x 0) 0, .d (wntD l)] [tapeI T] (.d (wntD (gBentW T l).1)) [tapeI (gBentW T l).2] [] := by
  have wl : ∀ x ∈ l, (wntC x).length = 3 := fun _ _ => rfl
  refine contract_of Try.func29 rfl (fun E0 => ?_)
  refine awp.sound (g := .mk) (ow := [8]) (kp := (fun k => k == 0 || k == 1 || k == 4 || k == 5 || k == 6 || k == 7 || k == 13 || k == 29 || k == 33 || k == 43 || k == 51 || k == 62 || k == 68)) ?_
  rw [Try.ntmps29]
  have dl : dLen 3 (l.map wntC) := dLen_map 3 _ _ fun _ => rfl
  simp -dsimp [wntD]
  and_intros
  all_goals try first | omega | exact dl | exact ⟨by kernel_rfl⟩
  refine AIf.dec (fun h0 => ?_) (fun h0 => ?_)
  · have h0' : l.length = 0 := by rw [h0]; rfl
    have hg : gBentW T l = ([⟨(gRange T 0 2).1, (gBent (gFlt (gRange T 0 2).2).2 (gFlt (gRange T 0 2).2).1).1⟩], (gBent (gFlt (gRange T 0 2).2).2 (gFlt (gRange T 0 2).2).1).2) := by rw [gBentW, if_pos h0']
    rw [hg]
    simp -dsimp
    try refine ⟨?_, ⟨by kernel_rfl⟩⟩
    refine ACall.of (range_c T hT 0 2 ⟨by omega, by omega⟩ ⟨by omega, by omega⟩ ⟨by omega, by omega⟩ ⟨by have := gRange_lo T 0 2; omega, by have := gRange_hi T (a := 0) (b := 2) (by omega); omega⟩) [.x 0] 0 ?_
    have kr : TapeOK (gRange T 0 2).2 := by simpa using hT
    generalize gRange T 0 2 = R at kr ⊢
    simp -dsimp
    refine ACall.of (filter_c R.2 kr) [.x 0] 0 ?_
    have kf : TapeOK (gFlt R.2).2 := by simpa using kr
    have hf' := gFlt_flt R.2
    generalize gFlt R.2 = F at kf hf' ⊢
    have hB := bent_c F.2 kf F.1 (by have := ok_len hf'; omega)
    simp only [fltT] at hB
    simp -dsimp [fltT]
    generalize gBent F.2 F.1 = B at hB ⊢
    refine ACall.of hB [.x 0] 0 ?_
    simp -dsimp [fltT]
    try refine ⟨?_, ⟨by kernel_rfl⟩⟩
    refine Fin.of ?_
    simp [wntD, wntC]
  · have h0' : ¬ l.length = 0 := fun e => h0 (List.length_eq_zero_iff.1 e)
    simp only [gBentW, if_neg h0']
    have i1 := gNext_nonneg T l.length
    have i2 := gNext_lt T (n := (l.length : Int)) (by omega)
    have ki : TapeOK (gNext T l.length).2 := by simpa using hT
    simp -dsimp [h0]
    refine ACall.of (next_c T hT l.length ⟨by omega, by omega⟩) [.x 0] 0 ?_
    generalize gNext T l.length = I at i1 i2 ki ⊢
    obtain ⟨i, T1⟩ := I
    simp only at i1 i2 ki ⊢
    obtain ⟨j, rfl⟩ : ∃ j : Nat, i = j := ⟨i.toNat, by omega⟩
    have hj : j < l.length := by omega
    have hgj : l[j]? = some l[j] := List.getElem?_eq_getElem hj
    have hmj : l[j] ∈ l := List.getElem_mem hj
    have hgd : l.getD j ⟨0, nF⟩ = l[j] := by rw [List.getD_eq_getElem?_getD, hgj]; rfl
    simp only [Int.toNat_natCast, hgd]
    generalize l[j] = x at hgj hmj ⊢
    simp -dsimp [hj]
    and_intros
    all_goals try first | omega | exact ⟨by kernel_rfl⟩
    refine ACall.of (next_c T1 ki 5 ⟨by omega, by omega⟩) [.x 0] 0 ?_
    have kc : TapeOK (gNext T1 5).2 := by simpa using ki
    generalize gNext T1 5 = C at kc ⊢
    obtain ⟨c, T2⟩ := C
    simp only at kc ⊢
    have gd : (dd (l.map wntC))[j]? = some [TV.d (.int .i64 x.g), TV.d (.int .i64 x.f.m), TV.d (ints x.f.s)] := by
      simp [dd, wntC, hgj]
    have setL : ∀ y : Wnt, (dd (l.map wntC)).set j [TV.d (.int .i64 y.g), TV.d (.int .i64 y.f.m), TV.d (ints y.f.s)] = dd ((l.set j y).map wntC) := fun y => by
      simp [dd, wntC, List.map_set]
    have hp := pick_c T2 kc [0, 1, 99, 100] (by simp) (by simp)
    simp only [ints, List.map] at hp
    by_cases c0 : c = 0
    · rw [if_pos c0]
      simp -dsimp [eq_true c0]
      refine ACall.of hp [.x 0] 0 ?_
      have hs0 := setL ⟨(gPick T2 [0, 1, 99, 100]).1, x.f⟩
      simp only at hs0
      simp -dsimp [gd, hs0]
      and_intros
      all_goals try first | omega | exact ⟨by kernel_rfl⟩
      refine Fin.view 4 ?_
      simp -dsimp
      refine Fin.of ?_
      simp [wntD, h0, hgj]
    rw [if_neg c0]
    by_cases c1 : c = 1
    · rw [if_pos c1]
      have hB := bent_c T2 kc x.f (hf x hmj)
      simp only [fltT] at hB
      simp -dsimp [c0, eq_true c1, gd]
      and_intros
      all_goals try first | omega | exact ⟨by kernel_rfl⟩
      have hs0 := setL ⟨x.g, (gBent T2 x.f).1⟩
      simp only at hs0
      refine ACall.of hB [.x 0] 0 ?_
      simp -dsimp [gd, hs0]
      and_intros
      all_goals try first | omega | exact ⟨by kernel_rfl⟩
      refine Fin.view 4 ?_
      simp -dsimp
      refine Fin.of ?_
      simp [wntD, h0, hgj]
    rw [if_neg c1]
    by_cases c2 : c = 2
    · rw [if_pos c2]
      have hN := nothing_c
      simp only [fltT] at hN
      simp -dsimp [c0, c1, eq_true c2]
      refine ACall.of hN [] 0 ?_
      have hs0 := setL ⟨x.g, nF⟩
      simp only [nF] at hs0
      simp -dsimp [gd, hs0]
      and_intros
      all_goals try first | omega | exact ⟨by kernel_rfl⟩
      refine Fin.view 4 ?_
      simp -dsimp
      refine Fin.of ?_
      simp [wntD, h0, hgj, nF]
    rw [if_neg c2]
    by_cases c3 : c = 3
    · rw [if_pos c3]
      have h00 : l[0]? = some l[0] := List.getElem?_eq_getElem (by omega)
      have e1 : l.take 1 = [l[0]] := by rw [List.take_one, List.head?_eq_getElem?, h00]; rfl
      rw [e1]
      generalize l[0] = z at h00
      have gd0 : (dd (l.map wntC))[0]? = some [TV.d (.int .i64 z.g), TV.d (.int .i64 z.f.m), TV.d (ints z.f.s)] := by
        simp [dd, wntC, h00]
      simp -dsimp [c0, c1, c2, eq_true c3, gd0]
      and_intros
      all_goals try first | omega | exact ⟨by kernel_rfl⟩
      refine Fin.view 4 ?_
      simp -dsimp
      refine Fin.of ?_
      simp [wntD, h0, hgj]
      rfl
    rw [if_neg c3]
    have fl : ∀ k, (fillW k).length = k := fun k => by
      induction k with
      | zero => rfl
      | succ k ih => simp [fillW, ih]
    have fd : ∀ k, l.length ≤ k → (fillW (k + 1)).drop l.length = (fillW k).drop l.length ++ [⟨50 + (k : Int), ⟨2, []⟩⟩] := fun k hk => by
      rw [fillW, List.drop_append_of_le_length (by rw [fl]; exact hk)]
    simp -dsimp [c0, c1, c2, c3]
    and_intros
    all_goals try first | omega | exact ⟨by kernel_rfl⟩
    refine ALoop.of [] (fun k => k == 0 || k == 1 || k == 4 || k == 5 || k == 6 || k == 7 || k == 13 || k == 29 || k == 33 || k == 43 || k == 51 || k == 62 || k == 68) (ι := { k : Nat // l.length ≤ k ∧ k ≤ 33 })
      (fun k => [(Pl.s 0, It.v (TV.ptr (Pl.x 0) 0)), (Pl.x 0, tapeI T2), (Pl.s 4, It.v (TV.c (Value.slice none 0 0))),
        (Pl.o 8, It.row 53 3 (dd ((l ++ (fillW k.1).drop l.length).map wntC)) false), (Pl.s 5, It.v (TV.oref 8 (l ++ (fillW k.1).drop l.length).length)), (Pl.s 7, It.v (TV.d (D.int IntKind.i64 k.1)))])
      (fun k => 33 - k.1) ⟨l.length, by omega, by omega⟩ ?_ ?_
    · have fz : List.drop l.length (List.map wntC (fillW l.length)) = [] := List.drop_eq_nil_of_le (by simp [fl])
      exact GS.to (by simp [fl, fz])
    · rintro ⟨k, k1, k2⟩
      have hlen : (l ++ (fillW k).drop l.length).length = k := by simp [fl]; omega
      by_cases hk : k < 33
      · have hkz : (k : Int) ≤ 32 := by omega
        have hfd := fd k k1
        have w1 := wrap_i64 (n := (50 : Int) + k) (by omega) (by omega)
        have w2 := wrap_i64 (n := (k : Int) + 1) (by omega) (by omega)
        have h3 : l.length + (k - l.length) = k := by omega
        have h4 : l.length + (k + 1 - l.length) = k + 1 := by omega
        have hfd' : dd (List.drop l.length (List.map wntC (fillW (k + 1)))) = dd (List.drop l.length (List.map wntC (fillW k))) ++ [[TV.d (.int .i64 (50 + (k : Int))), TV.d (.int .i64 2), TV.d (.sl [])]] := by
          rw [← List.map_drop, hfd]
          simp [wntC, ints, dd]
        simp -dsimp [hkz, w1, w2, fl, h3]
        and_intros
        all_goals try first | omega | exact ⟨by kernel_rfl⟩
        exact ⟨⟨k + 1, by omega, by omega⟩, GS.to (by simp [hfd', fl, h3, h4]), by simp; omega⟩
      · have hkz : ¬ (k : Int) ≤ 32 := by omega
        obtain rfl : k = 33 := by omega
        simp -dsimp [hkz]
        refine Fin.view 4 ?_
        simp -dsimp
        refine Fin.of ?_
        simp [wntD, h0, hgj]
end Go.Proofs
