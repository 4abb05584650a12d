/-
  What functions of the program compute, stated as contracts over plain data; the conditions of each stand in its own statement.
-/
import Derived.Test.YtkhgmgelbgondaaA5
import Derived.Test.YtkhgmgelbgondaaA4
import Derived.Test.YtkhgmgelbgondaaA9
set_option linter.unusedSimpArgs false
set_option maxRecDepth 100000
set_option maxHeartbeats 1000000
namespace Go.Proofs
open Go Go.Tr

/-- the place of the first, -1 if there is none -/
def idxV (v : Int) (l : List Int) : Int := match l.findIdx? (fun x => decide (x = v)) with | some i => i | none => -1
theorem idxV_at {v : Int} {l : List Int} {i : Nat} (hx : l[i]? = some v) (h : ∀ a, a < i → ∀ y, l[a]? = some y → y ≠ v) : idxV v l = i := by
  unfold idxV
  obtain ⟨hi, hv⟩ := List.getElem?_eq_some_iff.1 hx
  have : l.findIdx? (fun x => decide (x = v)) = some i := by
    rw [List.findIdx?_eq_some_iff_getElem]
    exact ⟨hi, by simp [hv], fun j hj => by have := h j hj _ (List.getElem?_eq_getElem (by omega)); simpa using this⟩
  rw [this]
theorem idxV_no {v : Int} {l : List Int} (h : ∀ a, a < l.length → ∀ y, l[a]? = some y → y ≠ v) : idxV v l = -1 := by
  unfold idxV
  have : l.findIdx? (fun x => decide (x = v)) = none := by
    rw [List.findIdx?_eq_none_iff]
    intro x hx
    obtain ⟨i, hi⟩ := List.getElem?_of_mem hx
    simpa using h i (List.getElem?_eq_some_iff.1 hi).1 x hi
  rw [this]
theorem idxV_has (v : Int) (l : List Int) : decide (0 ≤ idxV v l) = hasI l v := by
  unfold idxV hasI
  cases h : l.findIdx? (fun x => decide (x = v)) with
  | none =>
    have := List.findIdx?_eq_none_iff.1 h
    simp
    intro hm
    simpa using this v hm
  | some i =>
    obtain ⟨hi, h1, _⟩ := List.findIdx?_eq_some_iff_getElem.1 h
    simp at h1
    simp
    rw [← h1]; exact List.getElem_mem hi
theorem index_c (l : List Int) (hl : l.length ≤ 1000000) (v : Int) : Contract Try.prog 94 [.d (ints l), .d (.int .i64 v)] [] (.d (.int .i64 (idxV v l))) [] [] := by
  refine contract_of Try.func94 rfl (fun E0 => ?_)
  refine awp.sound (g := .mk) (ow := []) (kp := (fun k => k == 0 || k == 1 || k == 4 || k == 5 || k == 7 || k == 8 || k == 9 || k == 16)) ?_
  rw [Try.ntmps94]
  simp -dsimp [ints]
  refine ALoop.of [] (fun k => k == 0 || k == 1 || k == 4 || k == 5 || k == 7 || k == 8 || k == 9 || k == 16) (ι := { i : Nat // i ≤ l.length ∧ ∀ a, a < i → ∀ x, l[a]? = some x → x ≠ v }) (fun z => [(Pl.s 0, It.v (.d (ints l))), (Pl.s 1, It.v (.d (.int .i64 v))), (Pl.s 4, It.v (.d (.int .i64 0))), (Pl.s 7, It.v (TV.d (D.int IntKind.i64 l.length))), (Pl.s 8, It.v (TV.d (D.int IntKind.i64 z.1)))]) (fun z => l.length - z.1) ⟨0, by omega, fun a h => by omega⟩ ?_ ?_
  · exact GS.to (by simp [ints])
  · rintro ⟨i, i1, i2⟩
    by_cases hi : i < l.length
    · by_cases h : l[i] = v
      · have h' : v = l[i] := h.symm
        simp -dsimp [ints, hi, h, wrap_i64 (n := (i : Int) + 1) (by omega) (by omega)]
        try refine ⟨?_, ⟨by kernel_rfl⟩⟩
        refine Fin.of ?_
        simp [idxV_at (v := v) (l := l) (i := i) (by rw [List.getElem?_eq_getElem hi, h]) i2]
      · have h' : ¬ v = l[i] := fun e => h e.symm
        simp -dsimp [ints, hi, h, h', wrap_i64 (n := (i : Int) + 1) (by omega) (by omega)]
        try refine ⟨?_, ⟨by kernel_rfl⟩⟩
        exact ⟨⟨i + 1, by omega, fun a ha x hx => by
          by_cases e : a = i
          · subst e; rw [List.getElem?_eq_getElem hi] at hx; simp only [Option.some.injEq] at hx; rw [← hx]; exact h
          · exact i2 a (by omega) x hx⟩, GS.to (by simp [ints]), by simp; omega⟩
    · simp -dsimp [ints, hi]
      refine Fin.of ?_
      simp [idxV_no (v := v) (l := l) fun a ha => i2 a (by omega)]
theorem contains_c (l : List Int) (hl : l.length ≤ 1000000) (v : Int) : Contract Try.prog 88 [.d (ints l), .d (.int .i64 v)] [] (.d (.bool (hasI l v))) [] [] := by
  refine contract_of Try.func88 rfl (fun E0 => ?_)
  refine awp.sound (g := .mk) (ow := []) (kp := (fun k => k == 0 || k == 1 || k == 4)) ?_
  rw [Try.ntmps88]
  simp -dsimp
  refine ACall.of (index_c l hl v) [] 0 ?_
  simp -dsimp
  refine Fin.of ?_
  simp [idxV_has]
theorem uwants_c (f : Flt) (hf : f.s.length ≤ 1000000) (s : Int) : Contract Try.prog 79 [fltT f, .d (.int .i64 s)] [] (.d (.bool (wnt f s))) [] [] := by
  refine contract_of Try.func79 rfl (fun E0 => ?_)
  refine awp.sound (g := .mk) (ow := []) (kp := (fun k => k == 0 || k == 1 || k == 2 || k == 4)) ?_
  rw [Try.ntmps79]
  simp -dsimp [fltT]
  refine ACall.of (contains_c f.s hf s) [] 0 ?_
  simp -dsimp [fltT]
  try refine ⟨?_, ⟨by kernel_rfl⟩⟩
  refine Fin.of ?_
  simp [wnt, hasI]
theorem fwants_c (f : Flt) (hf : f.s.length ≤ 1000000) (s : Int) : Contract Try.prog 47 [fltT f, .d (.int .i64 s)] [] (.d (.bool (wntV f s))) [] [] := by
  refine contract_of Try.func47 rfl (fun E0 => ?_)
  refine awp.sound (g := .mk) (ow := []) (kp := (fun k => k == 0 || k == 1 || k == 2 || k == 4)) ?_
  rw [Try.ntmps47]
  simp -dsimp [fltT]
  refine ACall.of (validate_c f hf) [] 0 ?_
  by_cases h0 : vld f = 0
  · by_cases h1 : 0 < s
    · simp -dsimp [fltT, h0, h1]
      refine ACall.of (uwants_c f hf s) [] 0 ?_
      simp -dsimp [h0, h1]
      and_intros
      all_goals try first | rfl | exact ⟨by kernel_rfl⟩
      refine Fin.of ?_
      simp [wntV, wnt, hasI, h0, h1]
    · simp -dsimp [fltT, h0, h1]
      and_intros
      all_goals try first | rfl | exact ⟨by kernel_rfl⟩
      refine Fin.of ?_
      simp [wntV, h1]
  · simp -dsimp [fltT, h0]
    and_intros
    all_goals try first | rfl | exact ⟨by kernel_rfl⟩
    refine Fin.of ?_
    simp [wntV, h0]
def corV (x y : Int) : Int := if x ≠ 0 then x else y
theorem cor_c (x y : Int) : Contract Try.prog 54 [.d (ints [x, y])] [] (.d (.int .i64 (corV x y))) [] [] := by
  refine contract_of Try.func54 rfl (fun E0 => ?_)
  refine awp.sound (g := .mk) (ow := []) (kp := (fun k => k == 0 || k == 2 || k == 3 || k == 5 || k == 6 || k == 7 || k == 8 || k == 9 || k == 14)) ?_
  rw [Try.ntmps54]
  simp -dsimp [ints]
  refine ALoop.of [] (fun k => k == 0 || k == 2 || k == 3 || k == 5 || k == 6 || k == 7 || k == 8 || k == 9 || k == 14) (ι := { i : Nat // i ≤ 2 ∧ (0 < i → x = 0) ∧ (1 < i → y = 0) })
    (fun z => [(Pl.s 0, It.v (TV.d (D.sl [[D.int IntKind.i64 x], [D.int IntKind.i64 y]]))), (Pl.s 2, It.v (TV.d (D.int IntKind.i64 0))), (Pl.s 3, It.v (TV.d (D.int IntKind.i64 0))),
      (Pl.s 6, It.v (TV.d (D.sl [[D.int IntKind.i64 x], [D.int IntKind.i64 y]]))), (Pl.s 7, It.v (TV.d (D.int IntKind.i64 2))), (Pl.s 8, It.v (TV.d (D.int IntKind.i64 z.1)))]) (fun z => 2 - z.1) ⟨0, by omega, by omega, by omega⟩ ?_ ?_
  · exact GS.to (by simp)
  · rintro ⟨i, i1, i2, i3⟩
    rcases (by omega : i = 0 ∨ i = 1 ∨ i = 2) with rfl | rfl | rfl
    · by_cases h : x = 0
      · simp -dsimp [h]
        try refine ⟨?_, ⟨by kernel_rfl⟩⟩
        exact ⟨⟨1, by omega, fun _ => h, by omega⟩, GS.to (by simp [h, wrap_i64 (n := 1) (by omega) (by omega)]), by simp⟩
      · simp -dsimp [h]
        try refine ⟨?_, ⟨by kernel_rfl⟩⟩
        refine Fin.of ?_
        simp [corV, h]
    · have hx := i2 (by omega)
      by_cases h : y = 0
      · simp -dsimp [h]
        try refine ⟨?_, ⟨by kernel_rfl⟩⟩
        exact ⟨⟨2, by omega, fun _ => hx, fun _ => h⟩, GS.to (by simp [h, wrap_i64 (n := 2) (by omega) (by omega)]), by simp⟩
      · simp -dsimp [h]
        try refine ⟨?_, ⟨by kernel_rfl⟩⟩
        refine Fin.of ?_
        simp [corV, hx]
    · have hx := i2 (by omega)
      have hy := i3 (by omega)
      simp -dsimp
      refine Fin.of ?_
      simp [corV, hx, hy]
theorem grow_g : GrowC Try.prog 91 3 1 1000000 := by
  have hs := szO3
  have hz := zrO3
  have hb := byO3
  unfold szO at hs
  unfold zrO at hz
  unfold byO at hb
  cases hinf : Try.prog.info? 3 with
  | none => simp [hinf] at hs
  | some inf =>
    simp only [hinf, Option.map_some, Option.some.injEq, Option.bind_some] at hs hz hb
    have := GrowC.of8 Try.lGrow (inf := inf) hinf hz (by omega) (by rw [hs]; rfl) 1000000 (by omega) (by omega)
    rw [hs] at this
    exact this
theorem concat_c (a b : List Int) (ha : a.length ≤ 100000) (hb : b.length ≤ 100000) : Contract Try.prog 86 [.d (.sl [[ints a], [ints b]])] [] (.oref 24 (a ++ b).length) [] [(24, .row 3 1 (dd (nrow .i64 (a ++ b))) false)] := by
  have dla : dLen 1 (a.map fun x => [D.int .i64 x]) := dLen_map 1 _ _ fun _ => rfl
  have dlb : dLen 1 (b.map fun x => [D.int .i64 x]) := dLen_map 1 _ _ fun _ => rfl
  refine contract_of Try.func86 rfl (fun E0 => ?_)
  refine awp.sound (g := .mk) (ow := []) (kp := (fun k => k == 0 || k == 2 || k == 3 || k == 5 || k == 6 || k == 8 || k == 9 || k == 10 || k == 11 || k == 12 || k == 20 || k == 25 || k == 26 || k == 27 || k == 28)) ?_
  rw [Try.ntmps86]
  simp -dsimp [ints]
  refine ALoop.of [] (fun k => k == 0 || k == 2 || k == 3 || k == 5 || k == 6 || k == 8 || k == 9 || k == 10 || k == 11 || k == 12 || k == 20 || k == 25 || k == 26 || k == 27 || k == 28) (ι := { i : Nat // i ≤ 2 })
    (fun z => [(Pl.s 0, It.v (TV.d (D.sl [[ints a], [ints b]]))), (Pl.s 2, It.v (TV.c (Value.slice none 0 0))), (Pl.s 3, It.v (TV.d (D.int IntKind.i64 (if z.1 = 0 then 0 else if z.1 = 1 then (a.length : Int) else a.length + b.length)))),
      (Pl.s 9, It.v (TV.d (D.sl [[ints a], [ints b]]))), (Pl.s 10, It.v (TV.d (D.int IntKind.i64 2))), (Pl.s 11, It.v (TV.d (D.int IntKind.i64 z.1)))]) (fun z => 2 - z.1) ⟨0, by omega⟩ ?_ ?_
  · exact GS.to (by simp [ints])
  · rintro ⟨i, i1⟩
    rcases (by omega : i = 0 ∨ i = 1 ∨ i = 2) with rfl | rfl | rfl
    · have hn : ¬ (a.length : Int) < 0 := by omega
      simp -dsimp [ints, hn, wrap_i64 (n := (a.length : Int)) (by omega) (by omega)]
      try refine ⟨?_, ⟨by kernel_rfl⟩⟩
      exact ⟨⟨1, by omega⟩, GS.to (by simp [ints, wrap_i64 (n := 1) (by omega) (by omega)]), by simp⟩
    · have hn : ¬ (a.length : Int) + b.length < 0 := by omega
      simp -dsimp [ints, hn, wrap_i64 (n := (a.length : Int) + b.length) (by omega) (by omega)]
      try refine ⟨?_, ⟨by kernel_rfl⟩⟩
      exact ⟨⟨2, by omega⟩, GS.to (by simp [ints, wrap_i64 (n := 2) (by omega) (by omega)]), by simp⟩
    · simp -dsimp [ints]
      refine ACall.grow grow_g ?_
      simp -dsimp [ints]
      refine ⟨by omega, by omega, ?_⟩
      refine ALoop.of [] (fun k => k == 0 || k == 2 || k == 3 || k == 5 || k == 6 || k == 8 || k == 9 || k == 10 || k == 11 || k == 12 || k == 20 || k == 25 || k == 26 || k == 27 || k == 28) (ι := { i : Nat // i ≤ 2 })
        (fun z => [(Pl.s 0, It.v (TV.d (D.sl [[ints a], [ints b]]))), (Pl.s 2, It.v (TV.c (Value.slice none 0 0))), (Pl.s 6, It.v (TV.oref 24 (if z.1 = 0 then [] else if z.1 = 1 then a else a ++ b).length)),
          (Pl.o 24, It.row 3 1 (dd (nrow .i64 (if z.1 = 0 then [] else if z.1 = 1 then a else a ++ b))) false),
          (Pl.s 25, It.v (TV.d (D.sl [[ints a], [ints b]]))), (Pl.s 26, It.v (TV.d (D.int IntKind.i64 2))), (Pl.s 27, It.v (TV.d (D.int IntKind.i64 z.1)))]) (fun z => 2 - z.1) ⟨0, by omega⟩ ?_ ?_
      · exact GS.to (by simp [ints, nrow])
      · rintro ⟨i, i1⟩
        rcases (by omega : i = 0 ∨ i = 1 ∨ i = 2) with rfl | rfl | rfl
        · simp -dsimp [ints]
          and_intros
          all_goals try first | omega | exact dla | exact dlb | exact ⟨by kernel_rfl⟩
          exact ⟨⟨1, by omega⟩, GS.to (by simp [ints, nrow, show dd [] = [] from rfl, wrap_i64 (n := 1) (by omega) (by omega)]), by simp⟩
        · simp -dsimp [ints]
          and_intros
          all_goals try first | omega | exact dla | exact dlb | exact ⟨by kernel_rfl⟩
          exact ⟨⟨2, by omega⟩, GS.to (by simp [ints, nrow, show dd [] = [] from rfl, wrap_i64 (n := 2) (by omega) (by omega)]), by simp⟩
        · simp -dsimp [ints]
          refine Fin.of ?_
          simp
end Go.Proofs
