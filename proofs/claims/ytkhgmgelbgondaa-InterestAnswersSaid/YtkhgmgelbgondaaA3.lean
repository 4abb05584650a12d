/-
  What functions of the program compute, stated as contracts over plain data; the conditions of each stand in its own statement.
-/
import Derived.Test.YtkhgmgelbgondaaA2
set_option linter.unusedSimpArgs false
set_option maxRecDepth 100000
set_option maxHeartbeats 1000000
namespace Go.Proofs
open Go Go.Tr

def gBent (T : Tp) (f : Flt) : Flt × Tp :=
  let q := gNext T 4
  if q.1 = 0 then (⟨(gRange q.2 0 3).1, f.s⟩, (gRange q.2 0 3).2)
  else if q.1 = 1 then (⟨f.m, f.s ++ [(gPick q.2 [0, 1, 99, 100]).1]⟩, (gPick q.2 [0, 1, 99, 100]).2)
  else if q.1 = 2 then (⟨f.m, f.s ++ f.s.take 1⟩, q.2)
  else if f.s.length = 0 then (f, q.2) else (⟨f.m, f.s.set 0 (gPick q.2 [-1, 0, 100]).1⟩, (gPick q.2 [-1, 0, 100]).2)
theorem bent_c (T : Tp) (hT : TapeOK T) (f : Flt) (hf : f.s.length ≤ 1000) : Contract Try.prog 63 [.ptr (.x 0) 0, fltT f] [tapeI T] (fltT (gBent T f).1) [tapeI (gBent T f).2] [] := by
  have dl : dLen 1 (f.s.map fun x => [D.int .i64 x]) := dLen_map 1 _ _ fun _ => rfl
  refine contract_of Try.func63 rfl (fun E0 => ?_)
  refine awp.sound (g := .mk) (ow := [8]) (kp := (fun k => k == 0 || k == 1 || k == 3 || k == 4 || k == 5 || k == 14 || k == 18 || k == 25 || k == 30 || k == 40 || k == 45)) ?_
  rw [Try.ntmps63]
  simp -dsimp [fltT, ints]
  and_intros
  all_goals try first | omega | exact ⟨by kernel_rfl⟩ | exact dl
  refine ACall.of (next_c T hT 4 ⟨by omega, by omega⟩) [.x 0] 0 ?_
  simp -dsimp
  generalize hq : gNext T 4 = q
  have kq : TapeOK q.2 := by rw [← hq]; simpa using hT
  refine AIf.dec (fun c0 => ?_) (fun c0 => ?_)
  · simp -dsimp
    refine ACall.of (range_c q.2 kq 0 3 ⟨by omega, by omega⟩ ⟨by omega, by omega⟩ ⟨by omega, by omega⟩ ⟨by have := gRange_lo q.2 0 3; omega, by have := gRange_hi q.2 (a := 0) (b := 3) (by omega); omega⟩) [.x 0] 0 ?_
    simp -dsimp
    refine Fin.box (.o 4) rfl ?_
    simp -dsimp
    refine Fin.of ?_
    simp [gBent, hq, c0, fltT, ints]
  · simp -dsimp [c0]
    refine AIf.dec (fun c1 => ?_) (fun c1 => ?_)
    · simp -dsimp
      refine ACall.of (pick_c q.2 kq [0, 1, 99, 100] (by simp) (by simp)) [.x 0] 0 ?_
      simp -dsimp [ints]
      and_intros
      all_goals try first | omega | exact ⟨by kernel_rfl⟩
      refine Fin.box (.o 4) rfl ?_
      simp -dsimp
      refine Fin.of ?_
      simp [gBent, hq, c0, c1, fltT, ints]
    · simp -dsimp [c1]
      refine AIf.dec (fun c2 => ?_) (fun c2 => ?_)
      · simp -dsimp
        obtain ⟨m, s⟩ := f
        cases s with
        | nil =>
          simp -dsimp
          refine Fin.box (.o 4) rfl ?_
          simp -dsimp
          refine Fin.of ?_
          simp [gBent, hq, c0, c1, c2, fltT, ints]
        | cons x r =>
          simp only [List.length_cons] at hf
          simp -dsimp
          and_intros
          all_goals try first | omega | exact ⟨by kernel_rfl⟩
          refine Fin.box (.o 4) rfl ?_
          simp -dsimp
          refine Fin.of ?_
          simp [gBent, hq, c0, c1, c2, fltT, ints]
      · simp -dsimp
        obtain ⟨m, s⟩ := f
        cases s with
        | nil =>
          simp -dsimp
          refine Fin.box (.o 4) rfl ?_
          simp -dsimp
          refine Fin.of ?_
          simp [gBent, hq, c0, c1, c2, fltT, ints]
        | cons x r =>
          simp only [List.length_cons] at hf
          simp -dsimp
          refine ACall.of (pick_c q.2 kq [-1, 0, 100] (by simp) (by simp)) [.x 0] 0 ?_
          simp -dsimp [ints]
          try refine ⟨?_, ⟨by kernel_rfl⟩⟩
          refine Fin.box (.o 4) rfl ?_
          simp -dsimp
          refine Fin.of ?_
          simp [gBent, hq, c0, c1, c2, fltT, ints]
theorem toNat_succ (j : Nat) : ((j : Int) + 1).toNat = j + 1 := by omega
theorem asc_next : ∀ {l : List Int}, (∀ a x y, l[a]? = some x → l[a + 1]? = some y → x < y) → l.Pairwise (· < ·)
  | [], _ => .nil
  | [x], _ => by simp
  | x :: y :: r, h => by
    have ih := asc_next (l := y :: r) fun a u v hu hv => h (a + 1) u v (by simpa using hu) (by simpa using hv)
    refine List.pairwise_cons.2 ⟨fun z hz => ?_, ih⟩
    have h0 := h 0 x y rfl rfl
    rcases List.mem_cons.1 hz with e | hz
    · omega
    · have := (List.pairwise_cons.1 ih).1 z hz; omega
theorem vld_order {f : Flt} (hm : f.m = 1 ∨ f.m = 2) (hr : ∀ x ∈ f.s, ¬ (x < 1 ∨ 99 < x)) {i : Nat} (hi : i + 1 < f.s.length) (h : f.s[i + 1] ≤ f.s[i]) : vld f = 25 := by
  unfold vld
  rw [if_neg (by omega), if_neg (fun ⟨x, hx, h⟩ => hr x hx h), if_neg]
  intro hp
  have := List.pairwise_iff_getElem.1 hp i (i + 1) (by omega) hi (by omega)
  omega
theorem vld_done {f : Flt} (hm : f.m = 1 ∨ f.m = 2) (hr : ∀ x ∈ f.s, ¬ (x < 1 ∨ 99 < x)) (h : f.s.Pairwise (· < ·)) : vld f = 0 := by
  unfold vld
  rw [if_neg (by omega), if_neg (fun ⟨x, hx, h⟩ => hr x hx h), if_pos h]
theorem vld_range {f : Flt} (hm : f.m = 1 ∨ f.m = 2) {x : Int} (hx : x ∈ f.s) (h : x < 1 ∨ 99 < x) : vld f = 2 := by
  unfold vld
  rw [if_neg (by omega), if_pos ⟨x, hx, h⟩]
theorem rvalidate_cL (f : Flt) (hf : f.s.length ≤ 9223372036854775807) : Contract Try.prog 43 [fltT f] [] (.d (.int .i64 (vld f))) [] [] := by
  refine contract_of Try.func43 rfl (fun E0 => ?_)
  refine awp.sound (g := .mk) (ow := []) (kp := (fun k => k == 0 || k == 1 || k == 2 || k == 4 || k == 5 || k == 13 || k == 15 || k == 16 || k == 17 || k == 18 || k == 26 || k == 32 || k == 46)) ?_
  rw [Try.ntmps43]
  simp -dsimp [fltT, ints]
  by_cases hm : f.m = 1 ∨ f.m = 2
  rcases hm with m1 | m1
  · have hm : f.m = 1 ∨ f.m = 2 := .inl m1
    simp -dsimp [eq_true m1]
    refine ALoop.of [] (fun k => k == 0 || k == 1 || k == 2 || k == 4 || k == 5 || k == 13 || k == 15 || k == 16 || k == 17 || k == 18 || k == 26 || k == 32 || k == 46) (ι := { i : Nat // i ≤ f.s.length ∧ ∀ a, a < i → ∀ x, f.s[a]? = some x → ¬ (x < 1 ∨ 99 < x) })
      (fun z => [(Pl.s 0, It.v (TV.agg [TV.d (D.int IntKind.i64 f.m), TV.d (ints f.s)])), (Pl.o 1, It.box [TV.d (D.int IntKind.i64 f.m), TV.d (ints f.s)]), (Pl.s 1, It.v (TV.ptr (Pl.o 1) 0)), (Pl.s 2, It.v (TV.d (D.int IntKind.i64 0))),
        (Pl.s 13, It.v (TV.d (D.bool false))), (Pl.s 15, It.v (TV.d (ints f.s))), (Pl.s 16, It.v (TV.d (D.int IntKind.i64 f.s.length))), (Pl.s 17, It.v (TV.d (D.int IntKind.i64 z.1)))]) (fun z => f.s.length - z.1) ⟨0, by omega, fun a h => by omega⟩ ?_ ?_
    · exact GS.to (by simp [ints])
    · rintro ⟨i, i1, i2⟩
      by_cases hi : i < f.s.length
      · have hx : f.s[i] ∈ f.s := List.getElem_mem hi
        simp -dsimp [ints, hi]
        by_cases h1 : f.s[i] < 1
        · simp -dsimp [h1]
          try refine ⟨?_, ⟨by kernel_rfl⟩⟩
          refine Fin.of ?_
          simp [vld_range hm hx (.inl h1)]
        · by_cases h2 : 99 < f.s[i]
          · simp -dsimp [h1, h2]
            try refine ⟨?_, ⟨by kernel_rfl⟩⟩
            refine Fin.of ?_
            simp [vld_range hm hx (.inr h2)]
          · simp -dsimp [h1, h2, wrap_i64 (n := (i : Int) + 1) (by omega) (by omega)]
            try refine ⟨?_, ⟨by kernel_rfl⟩⟩
            exact ⟨⟨i + 1, by omega, fun a ha x hy => by
              by_cases e : a = i
              · subst e; rw [List.getElem?_eq_getElem hi] at hy; simp only [Option.some.injEq] at hy; omega
              · exact i2 a (by omega) x hy⟩, GS.to (by simp [ints]), by simp; omega⟩
      · have hr : ∀ x ∈ f.s, ¬ (x < 1 ∨ 99 < x) := fun x hx => by
          obtain ⟨a, ha⟩ := List.getElem?_of_mem hx
          exact i2 a (by have := (List.getElem?_eq_some_iff.1 ha).1; omega) x ha
        simp -dsimp [ints, hi]
        refine ALoop.of [] (fun k => k == 0 || k == 1 || k == 2 || k == 4 || k == 5 || k == 13 || k == 15 || k == 16 || k == 17 || k == 18 || k == 26 || k == 32 || k == 46) (ι := { i : Nat // i ≤ f.s.length ∧ ∀ a, a < i → ∀ x y, f.s[a]? = some x → f.s[a + 1]? = some y → x < y })
          (fun z => [(Pl.s 0, It.v (TV.agg [TV.d (D.int IntKind.i64 f.m), TV.d (ints f.s)])), (Pl.o 1, It.box [TV.d (D.int IntKind.i64 f.m), TV.d (ints f.s)]), (Pl.s 1, It.v (TV.ptr (Pl.o 1) 0)), (Pl.s 2, It.v (TV.d (D.int IntKind.i64 0))),
            (Pl.s 5, It.v (TV.d (D.int IntKind.i64 ((z.1 : Int) + 1))))]) (fun z => f.s.length - z.1) ⟨0, by omega, fun a h => by omega⟩ ?_ ?_
        · exact GS.to (by simp [ints])
        · rintro ⟨j, j1, j2⟩
          by_cases hj : j + 1 < f.s.length
          · have hj0 : j < f.s.length := by omega
            have hjz : (j : Int) + 1 < f.s.length := by omega
            have hg0 : f.s[j]? = some f.s[j] := List.getElem?_eq_getElem hj0
            have hg1 : f.s[j + 1]? = some f.s[j + 1] := List.getElem?_eq_getElem hj
            simp -dsimp [ints, hj, hj0, hjz, hg0, hg1, wrap_i64 (n := (j : Int)) (by omega) (by omega), toNat_succ, wrap_i64 (n := (j : Int) + 1 + 1) (by omega) (by omega)]
            refine ⟨by omega, AIf.dec (fun h => ?_) (fun h => ?_), ⟨by kernel_rfl⟩⟩
            · simp -dsimp [wrap_i64 (n := (j : Int) + 1 + 1) (by omega) (by omega)]
              refine Fin.of ?_
              simp [vld_order hm hr hj h]
            · simp -dsimp [wrap_i64 (n := (j : Int) + 1 + 1) (by omega) (by omega)]
              exact ⟨⟨j + 1, by omega, fun a ha x y hx hy => by
                by_cases e : a = j
                · subst e; rw [hg0] at hx; rw [hg1] at hy; simp only [Option.some.injEq] at hx hy; omega
                · exact j2 a (by omega) x y hx hy⟩, GS.to (by simp [ints]), by simp; omega⟩
          · have hjz : ¬ (j : Int) + 1 < f.s.length := by omega
            simp -dsimp [ints, hjz]
            refine Fin.of ?_
            have hp : f.s.Pairwise (· < ·) := asc_next fun a x y hx hy => j2 a (by have := (List.getElem?_eq_some_iff.1 hy).1; omega) x y hx hy
            simp [vld_done hm hr hp]
  · have hm : f.m = 1 ∨ f.m = 2 := .inr m1
    have n1 : ¬ f.m = 1 := by omega
    simp -dsimp [n1, eq_true m1]
    refine ALoop.of [] (fun k => k == 0 || k == 1 || k == 2 || k == 4 || k == 5 || k == 13 || k == 15 || k == 16 || k == 17 || k == 18 || k == 26 || k == 32 || k == 46) (ι := { i : Nat // i ≤ f.s.length ∧ ∀ a, a < i → ∀ x, f.s[a]? = some x → ¬ (x < 1 ∨ 99 < x) })
      (fun z => [(Pl.s 0, It.v (TV.agg [TV.d (D.int IntKind.i64 f.m), TV.d (ints f.s)])), (Pl.o 1, It.box [TV.d (D.int IntKind.i64 f.m), TV.d (ints f.s)]), (Pl.s 1, It.v (TV.ptr (Pl.o 1) 0)), (Pl.s 2, It.v (TV.d (D.int IntKind.i64 0))),
        (Pl.s 13, It.v (TV.d (D.bool false))), (Pl.s 15, It.v (TV.d (ints f.s))), (Pl.s 16, It.v (TV.d (D.int IntKind.i64 f.s.length))), (Pl.s 17, It.v (TV.d (D.int IntKind.i64 z.1)))]) (fun z => f.s.length - z.1) ⟨0, by omega, fun a h => by omega⟩ ?_ ?_
    · exact GS.to (by simp [ints])
    · rintro ⟨i, i1, i2⟩
      by_cases hi : i < f.s.length
      · have hx : f.s[i] ∈ f.s := List.getElem_mem hi
        simp -dsimp [ints, hi]
        by_cases h1 : f.s[i] < 1
        · simp -dsimp [h1]
          try refine ⟨?_, ⟨by kernel_rfl⟩⟩
          refine Fin.of ?_
          simp [vld_range hm hx (.inl h1)]
        · by_cases h2 : 99 < f.s[i]
          · simp -dsimp [h1, h2]
            try refine ⟨?_, ⟨by kernel_rfl⟩⟩
            refine Fin.of ?_
            simp [vld_range hm hx (.inr h2)]
          · simp -dsimp [h1, h2, wrap_i64 (n := (i : Int) + 1) (by omega) (by omega)]
            try refine ⟨?_, ⟨by kernel_rfl⟩⟩
            exact ⟨⟨i + 1, by omega, fun a ha x hy => by
              by_cases e : a = i
              · subst e; rw [List.getElem?_eq_getElem hi] at hy; simp only [Option.some.injEq] at hy; omega
              · exact i2 a (by omega) x hy⟩, GS.to (by simp [ints]), by simp; omega⟩
      · have hr : ∀ x ∈ f.s, ¬ (x < 1 ∨ 99 < x) := fun x hx => by
          obtain ⟨a, ha⟩ := List.getElem?_of_mem hx
          exact i2 a (by have := (List.getElem?_eq_some_iff.1 ha).1; omega) x ha
        simp -dsimp [ints, hi]
        refine ALoop.of [] (fun k => k == 0 || k == 1 || k == 2 || k == 4 || k == 5 || k == 13 || k == 15 || k == 16 || k == 17 || k == 18 || k == 26 || k == 32 || k == 46) (ι := { i : Nat // i ≤ f.s.length ∧ ∀ a, a < i → ∀ x y, f.s[a]? = some x → f.s[a + 1]? = some y → x < y })
          (fun z => [(Pl.s 0, It.v (TV.agg [TV.d (D.int IntKind.i64 f.m), TV.d (ints f.s)])), (Pl.o 1, It.box [TV.d (D.int IntKind.i64 f.m), TV.d (ints f.s)]), (Pl.s 1, It.v (TV.ptr (Pl.o 1) 0)), (Pl.s 2, It.v (TV.d (D.int IntKind.i64 0))),
            (Pl.s 5, It.v (TV.d (D.int IntKind.i64 ((z.1 : Int) + 1))))]) (fun z => f.s.length - z.1) ⟨0, by omega, fun a h => by omega⟩ ?_ ?_
        · exact GS.to (by simp [ints])
        · rintro ⟨j, j1, j2⟩
          by_cases hj : j + 1 < f.s.length
          · have hj0 : j < f.s.length := by omega
            have hjz : (j : Int) + 1 < f.s.length := by omega
            have hg0 : f.s[j]? = some f.s[j] := List.getElem?_eq_getElem hj0
            have hg1 : f.s[j + 1]? = some f.s[j + 1] := List.getElem?_eq_getElem hj
            simp -dsimp [ints, hj, hj0, hjz, hg0, hg1, wrap_i64 (n := (j : Int)) (by omega) (by omega), toNat_succ, wrap_i64 (n := (j : Int) + 1 + 1) (by omega) (by omega)]
            refine ⟨by omega, AIf.dec (fun h => ?_) (fun h => ?_), ⟨by kernel_rfl⟩⟩
            · simp -dsimp [wrap_i64 (n := (j : Int) + 1 + 1) (by omega) (by omega)]
              refine Fin.of ?_
              simp [vld_order hm hr hj h]
            · simp -dsimp [wrap_i64 (n := (j : Int) + 1 + 1) (by omega) (by omega)]
              exact ⟨⟨j + 1, by omega, fun a ha x y hx hy => by
                by_cases e : a = j
                · subst e; rw [hg0] at hx; rw [hg1] at hy; simp only [Option.some.injEq] at hx hy; omega
                · exact j2 a (by omega) x y hx hy⟩, GS.to (by simp [ints]), by simp; omega⟩
          · have hjz : ¬ (j : Int) + 1 < f.s.length := by omega
            simp -dsimp [ints, hjz]
            refine Fin.of ?_
            have hp : f.s.Pairwise (· < ·) := asc_next fun a x y hx hy => j2 a (by have := (List.getElem?_eq_some_iff.1 hy).1; omega) x y hx hy
            simp [vld_done hm hr hp]
  · have m1 : ¬ f.m = 1 := fun e => hm (.inl e)
    have m2 : ¬ f.m = 2 := fun e => hm (.inr e)
    simp -dsimp [m1, m2]
    refine Fin.of ?_
    simp [vld, m1, m2]
theorem rvalidate_c (f : Flt) (hf : f.s.length ≤ 1000000) : Contract Try.prog 43 [fltT f] [] (.d (.int .i64 (vld f))) [] [] := rvalidate_cL f (Nat.le_trans hf (by decide))
end Go.Proofs
