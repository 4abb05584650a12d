/-
  What functions of the program compute, stated as contracts over plain data; the conditions of each stand in its own statement.
-/
import Derived.Test.YtkhgmgelbgondaaD1
import Derived.Test.YtkhgmgelbgondaaA4
set_option linter.unusedSimpArgs false
set_option maxRecDepth 100000
set_option maxHeartbeats 8000000
namespace Go.Proofs
open Go Go.Tr

theorem within_c0 (x a b : Int) : Contract Try.prog 71 [.d (.int .i64 x), .d (.int .i64 a), .d (.int .i64 b)] [] (.d (.bool (decide (a ≤ x) && decide (x ≤ b)))) [] [] := by
  refine contract_of Try.func71 rfl (fun E0 => ?_)
  refine awp.sound (g := .mk) (ow := []) (kp := (fun k => k == 0 || k == 1 || k == 2 || k == 6)) ?_
  rw [Try.ntmps71]
  by_cases h1 : a ≤ x
  · simp -dsimp [eq_true h1]
    and_intros
    all_goals try first | rfl | omega | exact ⟨by kernel_rfl⟩
    refine Fin.of ?_
    simp [h1]
  · simp -dsimp [h1]
    and_intros
    all_goals try first | rfl | omega | exact ⟨by kernel_rfl⟩
    refine Fin.of ?_
    simp [h1]
theorem mnothing_c (f : Flt) : Contract Try.prog 73 [fltT f] [] (.d (.bool f.non)) [] [] := by
  refine contract_of Try.func73 rfl (fun E0 => ?_)
  refine awp.sound (g := .mk) (ow := []) (kp := (fun k => k == 0 || k == 1 || k == 2)) ?_
  rw [Try.ntmps73]
  by_cases h1 : f.m = 1
  · simp -dsimp [fltT, ints, eq_true h1]
    and_intros
    all_goals try first | rfl | omega | exact ⟨by kernel_rfl⟩
    refine Fin.of ?_
    simp [Flt.non, h1]
  · simp -dsimp [fltT, ints, h1]
    and_intros
    all_goals try first | rfl | omega | exact ⟨by kernel_rfl⟩
    refine Fin.of ?_
    simp [Flt.non, h1]
theorem inothing_c (f : Flt) : Contract Try.prog 62 [fltT f] [] (.d (.bool f.non)) [] [] := by
  refine contract_of Try.func62 rfl (fun E0 => ?_)
  refine awp.sound (g := .mk) (ow := []) (kp := (fun k => k == 0 || k == 1 || k == 2)) ?_
  rw [Try.ntmps62]
  by_cases h1 : f.m = 1
  · simp -dsimp [fltT, ints, eq_true h1]
    and_intros
    all_goals try first | rfl | omega | exact ⟨by kernel_rfl⟩
    refine Fin.of ?_
    simp [Flt.non, h1]
  · simp -dsimp [fltT, ints, h1]
    and_intros
    all_goals try first | rfl | omega | exact ⟨by kernel_rfl⟩
    refine Fin.of ?_
    simp [Flt.non, h1]
theorem isNaN_c (x : Int) : Contract Try.prog 89 [.d (.int .i64 x)] [] (.d (.bool false)) [] [] := by
  refine contract_of Try.func89 rfl (fun E0 => ?_)
  refine awp.sound (g := .mk) (ow := []) (kp := (fun k => k == 0 || k == 2)) ?_
  rw [Try.ntmps89]
  simp -dsimp
  refine Fin.of ?_
  simp
def sgI (x y : Int) : Int := if x < y then -1 else if y < x then 1 else 0
theorem compare_c (x y : Int) : Contract Try.prog 81 [.d (.int .i64 x), .d (.int .i64 y)] [] (.d (.int .i64 (sgI x y))) [] [] := by
  refine contract_of Try.func81 rfl (fun E0 => ?_)
  refine awp.sound (g := .mk) (ow := []) (kp := (fun k => k == 0 || k == 1 || k == 4 || k == 5 || k == 6 || k == 11 || k == 12 || k == 13 || k == 16 || k == 19)) ?_
  rw [Try.ntmps81]
  simp -dsimp
  refine ACall.of (isNaN_c x) [] 0 ?_
  simp -dsimp
  refine ACall.of (isNaN_c y) [] 0 ?_
  by_cases h1 : x < y
  · simp -dsimp [eq_true h1]
    and_intros
    all_goals try first | rfl | omega | exact ⟨by kernel_rfl⟩
    refine Fin.of ?_
    simp [sgI, h1]
  · by_cases h2 : y < x
    · simp -dsimp [h1, eq_true h2]
      and_intros
      all_goals try first | rfl | omega | exact ⟨by kernel_rfl⟩
      refine Fin.of ?_
      simp [sgI, h1, h2]
    · simp -dsimp [h1, h2]
      and_intros
      all_goals try first | rfl | omega | exact ⟨by kernel_rfl⟩
      refine Fin.of ?_
      simp [sgI, h1, h2]
def orI (x y : Int) : Int := if x = 0 then y else x
theorem orI_c (x y : Int) : Contract Try.prog 85 [.d (ints [x, y])] [] (.d (.int .i64 (orI x y))) [] [] := by
  refine contract_of Try.func85 rfl (fun E0 => ?_)
  refine awp.sound (g := .mk) (ow := []) (kp := (fun k => k == 0 || k == 2 || k == 3 || k == 5 || k == 6 || k == 7 || k == 8 || k == 9 || k == 14)) ?_
  rw [Try.ntmps85]
  simp -dsimp [ints]
  refine ALoop.of [] (fun k => k == 0 || k == 2 || k == 3 || k == 5 || k == 6 || k == 7 || k == 8 || k == 9 || k == 14) (ι := { i : Nat // i ≤ 2 ∧ (0 < i → x = 0) ∧ (1 < i → y = 0) })
    (fun z => [(Pl.s 0, It.v (TV.d (D.sl [[D.int IntKind.i64 x], [D.int IntKind.i64 y]]))), (Pl.s 2, It.v (TV.d (D.int IntKind.i64 0))), (Pl.s 3, It.v (TV.d (D.int IntKind.i64 0))),
      (Pl.s 6, It.v (TV.d (D.sl [[D.int IntKind.i64 x], [D.int IntKind.i64 y]]))), (Pl.s 7, It.v (TV.d (D.int IntKind.i64 2))), (Pl.s 8, It.v (TV.d (D.int IntKind.i64 z.1)))]) (fun z => 2 - z.1) ⟨0, by omega, by omega, by omega⟩ ?_ ?_
  · exact GS.to (by simp)
  · rintro ⟨i, i1, i2, i3⟩
    rcases (by omega : i = 0 ∨ i = 1 ∨ i = 2) with rfl | rfl | rfl
    · by_cases h : x = 0
      · simp -dsimp [h]
        try refine ⟨?_, ⟨by kernel_rfl⟩⟩
        exact ⟨⟨1, by omega, fun _ => h, by omega⟩, GS.to (by simp [h, wrap_i64 (n := 1) (by omega) (by omega)]), by simp⟩
      · simp -dsimp [h]
        try refine ⟨?_, ⟨by kernel_rfl⟩⟩
        refine Fin.of ?_
        simp [orI, h]
    · have hx := i2 (by omega)
      by_cases h : y = 0
      · simp -dsimp [h]
        try refine ⟨?_, ⟨by kernel_rfl⟩⟩
        exact ⟨⟨2, by omega, fun _ => hx, fun _ => h⟩, GS.to (by simp [h, wrap_i64 (n := 2) (by omega) (by omega)]), by simp⟩
      · simp -dsimp [h]
        try refine ⟨?_, ⟨by kernel_rfl⟩⟩
        refine Fin.of ?_
        simp [orI, hx]
    · have hx := i2 (by omega)
      have hy := i3 (by omega)
      simp -dsimp
      refine Fin.of ?_
      simp [orI, hx, hy]
def cmpM (y x : Mem) : Int := orI (sgI y.g x.g) (sgI y.h x.h)
theorem cmpM_neg (y x : Mem) : cmpM y x < 0 ↔ befM y x = true := by
  rw [befM_iff]
  unfold cmpM orI sgI
  by_cases a1 : y.g < x.g
  · simp [a1]
  · by_cases a2 : x.g < y.g
    · simp [a1, a2]; omega
    · by_cases a3 : y.h < x.h
      · simp [a1, a2, a3]; omega
      · by_cases a4 : x.h < y.h
        · simp [a1, a2, a3, a4]
        · simp [a1, a2, a3, a4]
theorem mcompare_c (y x : Mem) : Contract Try.prog 74 [.agg [.d (.int .i64 y.h), .d (.int .i64 y.g), .d (.int .i64 y.f.m), .d (ints y.f.s), .d (.int .i64 y.u)], .agg [.d (.int .i64 x.g), .d (.int .i64 x.h)]] [] (.d (.int .i64 (cmpM y x))) [] [] := by
  refine contract_of Try.func74 rfl (fun E0 => ?_)
  refine awp.sound (g := .mk) (ow := []) (kp := (fun k => k == 0 || k == 1 || k == 2 || k == 3 || k == 4)) ?_
  rw [Try.ntmps74]
  simp -dsimp
  refine ACall.of (compare_c y.g x.g) [] 0 ?_
  simp -dsimp
  refine ACall.of (compare_c y.h x.h) [] 0 ?_
  simp -dsimp
  have ho := orI_c (sgI y.g x.g) (sgI y.h x.h)
  simp only [ints, List.map] at ho
  refine ACall.of ho [] 0 ?_
  simp -dsimp
  and_intros
  all_goals try first | rfl | omega | exact ⟨by kernel_rfl⟩
  refine Fin.of ?_
  simp [cmpM]
/-- the first error of some filters -/
def ferr : List Flt → Int
  | [] => 0
  | f :: r => if vld f ≠ 0 then vld f else ferr r
theorem ferr_at : ∀ {l : List Flt} {i : Nat} {f : Flt}, l[i]? = some f → (∀ a, a < i → ∀ g, l[a]? = some g → vld g = 0) → vld f ≠ 0 → ferr l = vld f
  | [], i, f, h, _, _ => by simp at h
  | g :: r, 0, f, h, _, hf => by simp at h; subst h; simp [ferr, hf]
  | g :: r, i + 1, f, h, h2, hf => by
    have := h2 0 (by omega) g rfl
    simp only [ferr, this]
    simpa using ferr_at (l := r) (i := i) (by simpa using h) (fun a ha g hg => h2 (a + 1) (by omega) g (by simpa using hg)) hf
theorem ferr_no : ∀ {l : List Flt}, (∀ a : Nat, ∀ g, l[a]? = some g → vld g = 0) → ferr l = 0
  | [], _ => rfl
  | g :: r, h => by
    have := h 0 g rfl
    simp only [ferr, this]
    simpa using ferr_no (l := r) fun a g hg => h (a + 1) g (by simpa using hg)
def rgM (now : Int) (x : Mem) : Bool := decide (1 ≤ x.h ∧ x.h ≤ 99 ∧ 1 ≤ x.g ∧ x.g ≤ 99 ∧ now ≤ x.u ∧ x.u ≤ now + 1000)
def AscM2 (l : List Mem) : Prop := ∀ a x y, l[a]? = some x → l[a + 1]? = some y → befM x y = true
theorem asc2 : ∀ {l : List Mem}, AscM2 l ↔ AscM l
  | [] => by simp [AscM2, AscM]
  | [x] => by simp [AscM2, AscM]
  | x :: y :: r => by
    constructor
    · intro h
      have ih := (asc2 (l := y :: r)).1 (fun a u v hu hv => h (a + 1) u v (by simpa using hu) (by simpa using hv))
      refine List.pairwise_cons.2 ⟨fun z hz => ?_, ih⟩
      have h0 := h 0 x y rfl rfl
      rcases List.mem_cons.1 hz with rfl | hz
      · exact h0
      · exact befM_trans h0 ((List.pairwise_cons.1 ih).1 z hz)
    · intro h a u v hu hv
      obtain ⟨a1, e1⟩ := List.getElem?_eq_some_iff.1 hu
      obtain ⟨a2, e2⟩ := List.getElem?_eq_some_iff.1 hv
      subst e1; subst e2
      exact List.pairwise_iff_getElem.1 h a (a + 1) a1 a2 (by omega)
instance (l : List Mem) : Decidable (AscM l) := inferInstanceAs (Decidable (List.Pairwise _ _))
def vldM (m : Mbs) : Int := if ¬ (0 ≤ m.now ∧ m.now ≤ 1000000) then 2 else if 64 < m.l.length then 3 else if ∃ x ∈ m.l, rgM m.now x = false then 2 else
  if ferr (m.l.map (·.f)) ≠ 0 then ferr (m.l.map (·.f)) else if ∃ x ∈ m.l, x.f.non = true then 1 else if AscM m.l then 0 else 25
theorem mvalidate_cL (m : Mbs) (hl : m.l.length ≤ 1000000) (hf : ∀ x ∈ m.l, x.f.s.length ≤ 9223372036854775807) : Contract Try.prog 39 [mbsT m] [] (.d (.int .i64 (vldM m))) [] [] := by
  refine contract_of Try.func39 rfl (fun E0 => ?_)
  refine awp.sound (g := .mk) (ow := []) (kp := (fun k => k == 0 || k == 1 || k == 2 || k == 4 || k == 6 || k == 7 || k == 9 || k == 10 || k == 11 || k == 15 || k == 19 || k == 21 || k == 22 || k == 23 || k == 24 || k == 47 || k == 50 || k == 51 || k == 52 || k == 53 || k == 60 || k == 64 || k == 65 || k == 66 || k == 67 || k == 72 || k == 78 || k == 98)) ?_
  rw [Try.ntmps39]
  simp -dsimp [mbsT]
  refine ACall.of (within_c0 m.now 0 1000000) [] 0 ?_
  by_cases h1 : 0 ≤ m.now ∧ m.now ≤ 1000000
  · by_cases h2 : 64 < m.l.length
    · have h2z : (64 : Int) < m.l.length := by omega
      simp -dsimp [h1.1, h1.2, mems, h2z]
      and_intros
      all_goals try first | rfl | omega | exact ⟨by kernel_rfl⟩
      refine Fin.of ?_
      simp [vldM, h1, h2]
    · have h2z : ¬ (64 : Int) < m.l.length := by omega
      simp -dsimp [h1.1, h1.2, mems, h2z]
      refine ALoop.of [] (fun k => k == 0 || k == 1 || k == 2 || k == 4 || k == 6 || k == 7 || k == 9 || k == 10 || k == 11 || k == 15 || k == 19 || k == 21 || k == 22 || k == 23 || k == 24 || k == 47 || k == 50 || k == 51 || k == 52 || k == 53 || k == 60 || k == 64 || k == 65 || k == 66 || k == 67 || k == 72 || k == 78 || k == 98) (ι := { i : Nat // i ≤ m.l.length ∧ ∀ a, a < i → ∀ y, m.l[a]? = some y → rgM m.now y = true })
        (fun z => [(Pl.s 0, It.v (TV.agg [TV.d (D.int IntKind.i64 m.now), TV.d (D.sl (List.map memC m.l))])), (Pl.o 1, It.box [TV.d (D.int IntKind.i64 m.now), TV.d (D.sl (List.map memC m.l))]), (Pl.s 1, It.v (TV.ptr (Pl.o 1) 0)), (Pl.s 2, It.v (TV.d (D.int IntKind.i64 0))),
          (Pl.s 15, It.v (TV.d (D.bool false))), (Pl.s 19, It.v (TV.d (D.bool false))),
          (Pl.s 21, It.v (TV.d (D.sl (List.map memC m.l)))), (Pl.s 22, It.v (TV.d (D.int IntKind.i64 m.l.length))), (Pl.s 23, It.v (TV.d (D.int IntKind.i64 z.1)))])
        (fun z => m.l.length - z.1) ⟨0, by omega, fun a h => by omega⟩ ?_ ?_
      · exact GS.to (by simp)
      · rintro ⟨i, i1, i2⟩
        by_cases hi : i < m.l.length
        · have hiz : (i : Int) < m.l.length := by omega
          have hg : m.l[i]? = some m.l[i] := List.getElem?_eq_getElem hi
          have hm : m.l[i] ∈ m.l := List.getElem_mem hi
          generalize m.l[i] = y at hg hm
          have nx : rgM m.now y = true → ∀ a, a < i + 1 → ∀ z, m.l[a]? = some z → rgM m.now z = true := fun hb a ha z hz => by
            by_cases e : a = i
            · subst e; rw [hg] at hz; simp only [Option.some.injEq] at hz; subst hz; exact hb
            · exact i2 a (by omega) z hz
          have bad : rgM m.now y = false → vldM m = 2 := fun hb => by
            have : ∃ x ∈ m.l, rgM m.now x = false := ⟨y, hm, hb⟩
            simp [vldM, h1, h2, this]
          simp -dsimp [hg, memC, hiz]
          refine ACall.of (within_c0 y.h 1 99) [] 0 ?_
          rcases (Bool.eq_false_or_eq_true (decide (1 ≤ y.h) && decide (y.h ≤ 99))).symm with b1 | b1
          · simp -dsimp [b1]
            and_intros
            all_goals try first | rfl | omega | exact ⟨by kernel_rfl⟩
            refine Fin.of ?_
            simp only [Bool.and_eq_false_iff, decide_eq_false_iff_not] at b1
            simp [bad (by simp only [rgM, decide_eq_false_iff_not]; omega)]
          · have c1 : 1 ≤ y.h ∧ y.h ≤ 99 := by simpa using b1
            simp -dsimp [hg, memC, hiz, b1, c1.1, c1.2]
            refine ACall.of (within_c0 y.g 1 99) [] 0 ?_
            rcases (Bool.eq_false_or_eq_true (decide (1 ≤ y.g) && decide (y.g ≤ 99))).symm with b2 | b2
            · simp -dsimp [b2]
              and_intros
              all_goals try first | rfl | omega | exact ⟨by kernel_rfl⟩
              refine Fin.of ?_
              simp only [Bool.and_eq_false_iff, decide_eq_false_iff_not] at b2
              simp [bad (by simp only [rgM, decide_eq_false_iff_not]; omega)]
            · have c2 : 1 ≤ y.g ∧ y.g ≤ 99 := by simpa using b2
              simp -dsimp [hg, memC, hiz, b1, b2, c2.1, c2.2, wrap_i64 (n := m.now + 1000) (by omega) (by omega)]
              refine ACall.of (within_c0 y.u m.now (m.now + 1000)) [] 0 ?_
              rcases (Bool.eq_false_or_eq_true (decide (m.now ≤ y.u) && decide (y.u ≤ m.now + 1000))).symm with b3 | b3
              · simp -dsimp [b3]
                and_intros
                all_goals try first | rfl | omega | exact ⟨by kernel_rfl⟩
                refine Fin.of ?_
                simp only [Bool.and_eq_false_iff, decide_eq_false_iff_not] at b3
                simp [bad (by simp only [rgM, decide_eq_false_iff_not]; omega)]
              · have c3 : m.now ≤ y.u ∧ y.u ≤ m.now + 1000 := by simpa using b3
                simp -dsimp [b3, c3.1, c3.2, wrap_i64 (n := (i : Int) + 1) (by omega) (by omega)]
                and_intros
                all_goals try first | rfl | omega | exact ⟨by kernel_rfl⟩
                exact ⟨⟨i + 1, by omega, nx (by simp [rgM, c1, c2, c3])⟩, GS.to (by simp), by simp; omega⟩
        · have hiz : ¬ (i : Int) < m.l.length := by omega
          have a2 : ¬ ∃ x ∈ m.l, rgM m.now x = false := fun ⟨x, hx, hb⟩ => by
            obtain ⟨a, ha⟩ := List.getElem?_of_mem hx
            have := i2 a (by have := (List.getElem?_eq_some_iff.1 ha).1; omega) x ha
            rw [this] at hb; simp at hb
          simp -dsimp [hiz]
          refine ALoop.of [] (fun k => k == 0 || k == 1 || k == 2 || k == 4 || k == 6 || k == 7 || k == 9 || k == 10 || k == 11 || k == 15 || k == 19 || k == 21 || k == 22 || k == 23 || k == 24 || k == 47 || k == 50 || k == 51 || k == 52 || k == 53 || k == 60 || k == 64 || k == 65 || k == 66 || k == 67 || k == 72 || k == 78 || k == 98) (ι := { i : Nat // i ≤ m.l.length ∧ ∀ a, a < i → ∀ y, m.l[a]? = some y → vld y.f = 0 })
            (fun z => [(Pl.s 0, It.v (TV.agg [TV.d (D.int IntKind.i64 m.now), TV.d (D.sl (List.map memC m.l))])), (Pl.o 1, It.box [TV.d (D.int IntKind.i64 m.now), TV.d (D.sl (List.map memC m.l))]), (Pl.s 1, It.v (TV.ptr (Pl.o 1) 0)), (Pl.s 2, It.v (TV.d (D.int IntKind.i64 0))),
              (Pl.s 50, It.v (TV.d (D.sl (List.map memC m.l)))), (Pl.s 51, It.v (TV.d (D.int IntKind.i64 m.l.length))), (Pl.s 52, It.v (TV.d (D.int IntKind.i64 z.1)))])
            (fun z => m.l.length - z.1) ⟨0, by omega, fun a h => by omega⟩ ?_ ?_
          · exact GS.to (by simp)
          · rintro ⟨i, i1, i2⟩
            by_cases hi : i < m.l.length
            · have hiz : (i : Int) < m.l.length := by omega
              have hg : m.l[i]? = some m.l[i] := List.getElem?_eq_getElem hi
              have hm : m.l[i] ∈ m.l := List.getElem_mem hi
              generalize m.l[i] = y at hg hm
              have nx : vld y.f = 0 → ∀ a, a < i + 1 → ∀ y, m.l[a]? = some y → vld y.f = 0 := fun hb a ha z hz => by
                by_cases e : a = i
                · subst e; rw [hg] at hz; simp only [Option.some.injEq] at hz; subst hz; exact hb
                · exact i2 a (by omega) z hz
              have hf0 := hf y hm
              simp -dsimp [hg, memC, hiz]
              have hv := validate_cL y.f hf0
              simp only [fltT] at hv
              refine ACall.of hv [] 0 ?_
              by_cases b1 : vld y.f = 0
              · simp -dsimp [b1, wrap_i64 (n := (i : Int) + 1) (by omega) (by omega)]
                and_intros
                all_goals try first | rfl | omega | exact ⟨by kernel_rfl⟩
                exact ⟨⟨i + 1, by omega, nx b1⟩, GS.to (by simp), by simp; omega⟩
              · simp -dsimp [b1]
                and_intros
                all_goals try first | rfl | omega | exact ⟨by kernel_rfl⟩
                refine Fin.of ?_
                have hfe : ferr (m.l.map (·.f)) = vld y.f := ferr_at (i := i) (by simp [hg]) (fun a ha g hg' => by
                  rw [List.getElem?_map] at hg'
                  cases hz : m.l[a]? with
                  | none => rw [hz] at hg'; simp at hg'
                  | some z => rw [hz] at hg'; simp only [Option.map_some, Option.some.injEq] at hg'; subst hg'; exact i2 a ha z hz) b1
                simp [vldM, h1, h2, a2, hfe, b1]
            · have hiz : ¬ (i : Int) < m.l.length := by omega
              have a3 : ferr (m.l.map (·.f)) = 0 := ferr_no fun a g hg' => by
                rw [List.getElem?_map] at hg'
                cases hz : m.l[a]? with
                | none => rw [hz] at hg'; simp at hg'
                | some z =>
                  rw [hz] at hg'; simp only [Option.map_some, Option.some.injEq] at hg'; subst hg'
                  exact i2 a (by have := (List.getElem?_eq_some_iff.1 hz).1; omega) z hz
              simp -dsimp [hiz]
              refine ALoop.of [] (fun k => k == 0 || k == 1 || k == 2 || k == 4 || k == 6 || k == 7 || k == 9 || k == 10 || k == 11 || k == 15 || k == 19 || k == 21 || k == 22 || k == 23 || k == 24 || k == 47 || k == 50 || k == 51 || k == 52 || k == 53 || k == 60 || k == 64 || k == 65 || k == 66 || k == 67 || k == 72 || k == 78 || k == 98) (ι := { i : Nat // i ≤ m.l.length ∧ ∀ a, a < i → ∀ y, m.l[a]? = some y → y.f.non = false })
                (fun z => [(Pl.s 0, It.v (TV.agg [TV.d (D.int IntKind.i64 m.now), TV.d (D.sl (List.map memC m.l))])), (Pl.o 1, It.box [TV.d (D.int IntKind.i64 m.now), TV.d (D.sl (List.map memC m.l))]), (Pl.s 1, It.v (TV.ptr (Pl.o 1) 0)), (Pl.s 2, It.v (TV.d (D.int IntKind.i64 0))),
                  (Pl.s 64, It.v (TV.d (D.sl (List.map memC m.l)))), (Pl.s 65, It.v (TV.d (D.int IntKind.i64 m.l.length))), (Pl.s 66, It.v (TV.d (D.int IntKind.i64 z.1)))])
                (fun z => m.l.length - z.1) ⟨0, by omega, fun a h => by omega⟩ ?_ ?_
              · exact GS.to (by simp)
              · rintro ⟨i, i1, i2⟩
                by_cases hi : i < m.l.length
                · have hiz : (i : Int) < m.l.length := by omega
                  have hg : m.l[i]? = some m.l[i] := List.getElem?_eq_getElem hi
                  have hm : m.l[i] ∈ m.l := List.getElem_mem hi
                  generalize m.l[i] = y at hg hm
                  have nx : y.f.non = false → ∀ a, a < i + 1 → ∀ y, m.l[a]? = some y → y.f.non = false := fun hb a ha z hz => by
                    by_cases e : a = i
                    · subst e; rw [hg] at hz; simp only [Option.some.injEq] at hz; subst hz; exact hb
                    · exact i2 a (by omega) z hz
                  simp -dsimp [hg, memC, hiz]
                  have hv := mnothing_c y.f
                  simp only [fltT] at hv
                  refine ACall.of hv [] 0 ?_
                  rcases (Bool.eq_false_or_eq_true y.f.non).symm with b1 | b1
                  · simp -dsimp [b1, wrap_i64 (n := (i : Int) + 1) (by omega) (by omega)]
                    and_intros
                    all_goals try first | rfl | omega | exact ⟨by kernel_rfl⟩
                    exact ⟨⟨i + 1, by omega, nx b1⟩, GS.to (by simp), by simp; omega⟩
                  · simp -dsimp [b1]
                    and_intros
                    all_goals try first | rfl | omega | exact ⟨by kernel_rfl⟩
                    refine Fin.of ?_
                    have : ∃ x ∈ m.l, x.f.non = true := ⟨y, hm, b1⟩
                    simp [vldM, h1, h2, a2, a3, this]
                · have hiz : ¬ (i : Int) < m.l.length := by omega
                  have a4 : ¬ ∃ x ∈ m.l, x.f.non = true := fun ⟨x, hx, hb⟩ => by
                    obtain ⟨a, ha⟩ := List.getElem?_of_mem hx
                    have := i2 a (by have := (List.getElem?_eq_some_iff.1 ha).1; omega) x ha
                    rw [this] at hb; simp at hb
                  simp -dsimp [hiz]
                  refine ALoop.of [] (fun k => k == 0 || k == 1 || k == 2 || k == 4 || k == 6 || k == 7 || k == 9 || k == 10 || k == 11 || k == 15 || k == 19 || k == 21 || k == 22 || k == 23 || k == 24 || k == 47 || k == 50 || k == 51 || k == 52 || k == 53 || k == 60 || k == 64 || k == 65 || k == 66 || k == 67 || k == 72 || k == 78 || k == 98) (ι := { i : Nat // i ≤ m.l.length ∧ ∀ a, a < i → ∀ x y, m.l[a]? = some x → m.l[a + 1]? = some y → befM x y = true })
                    (fun z => [(Pl.s 0, It.v (TV.agg [TV.d (D.int IntKind.i64 m.now), TV.d (D.sl (List.map memC m.l))])), (Pl.o 1, It.box [TV.d (D.int IntKind.i64 m.now), TV.d (D.sl (List.map memC m.l))]), (Pl.s 1, It.v (TV.ptr (Pl.o 1) 0)), (Pl.s 2, It.v (TV.d (D.int IntKind.i64 0))), (Pl.s 10, It.v (TV.d (D.int IntKind.i64 ((z.1 : Int) + 1))))])
                    (fun z => m.l.length - z.1) ⟨0, by omega, fun a h => by omega⟩ ?_ ?_
                  · exact GS.to (by simp)
                  · rintro ⟨j, j1, j2⟩
                    by_cases hj : j + 1 < m.l.length
                    · have hjz : (j : Int) + 1 < m.l.length := by omega
                      have hg0 : m.l[j]? = some m.l[j] := List.getElem?_eq_getElem (by omega)
                      have hg1 : m.l[j + 1]? = some m.l[j + 1] := List.getElem?_eq_getElem hj
                      generalize m.l[j] = x at hg0
                      generalize m.l[j + 1] = y at hg1
                      simp -dsimp [hg0, hg1, memC, hjz, toNat_succ, wrap_i64 (n := (j : Int)) (by omega) (by omega)]
                      refine ⟨by omega, by omega, ?_⟩
                      refine ACall.of (mcompare_c x y) [] 0 ?_
                      by_cases hb : befM x y = true
                      · have hc : ¬ 0 ≤ cmpM x y := by have := (cmpM_neg x y).2 hb; omega
                        simp -dsimp [hc, wrap_i64 (n := (j : Int) + 1 + 1) (by omega) (by omega)]
                        and_intros
                        all_goals try first | rfl | omega | exact ⟨by kernel_rfl⟩
                        exact ⟨⟨j + 1, by omega, fun a ha u v hu hv => by
                          by_cases e : a = j
                          · subst e; rw [hg0] at hu; rw [hg1] at hv; simp only [Option.some.injEq] at hu hv; subst hu; subst hv; exact hb
                          · exact j2 a (by omega) u v hu hv⟩, GS.to (by simp), by simp; omega⟩
                      · have hc : 0 ≤ cmpM x y := by have := mt (cmpM_neg x y).1 hb; omega
                        simp -dsimp [hc]
                        and_intros
                        all_goals try first | rfl | omega | exact ⟨by kernel_rfl⟩
                        refine Fin.of ?_
                        have hn : ¬ AscM m.l := fun h => hb (asc2.2 h j x y hg0 hg1)
                        simp [vldM, h1, h2, a2, a3, a4, hn]
                    · have hjz : ¬ (j : Int) + 1 < m.l.length := by omega
                      simp -dsimp [hjz]
                      and_intros
                      all_goals try first | rfl | omega | exact ⟨by kernel_rfl⟩
                      refine Fin.of ?_
                      have hy : AscM m.l := asc2.1 fun a u v hu hv => j2 a (by have := (List.getElem?_eq_some_iff.1 hv).1; omega) u v hu hv
                      simp [vldM, h1, h2, a2, a3, a4, hy]
  · have h1' : (decide (0 ≤ m.now) && decide (m.now ≤ 1000000)) = false := by simpa using h1
    simp -dsimp [h1']
    and_intros
    all_goals try first | rfl | omega | exact ⟨by kernel_rfl⟩
    refine Fin.of ?_
    simp [vldM, h1]
theorem mvalidate_c (m : Mbs) (hl : m.l.length ≤ 1000000) (hf : ∀ x ∈ m.l, x.f.s.length ≤ 1000000) : Contract Try.prog 39 [mbsT m] [] (.d (.int .i64 (vldM m))) [] [] := mvalidate_cL m hl (fun x hx => Nat.le_trans (hf x hx) (by decide))
end Go.Proofs
