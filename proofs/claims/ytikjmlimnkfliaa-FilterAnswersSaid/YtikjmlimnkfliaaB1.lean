/-
  What functions of the program compute, stated as contracts over plain data; the conditions of each stand in its own statement.
-/
import Derived.Test.YtikjmlimnkfliaaA8
import Derived.Test.YtikjmlimnkfliaaA6
set_option linter.unusedSimpArgs false
set_option maxRecDepth 100000
set_option maxHeartbeats 1000000
namespace Go.Proofs
open Go Go.Tr

theorem union1_c (x y : Bool) : Contract Try.prog 34 [.d (.bool x), .d (.bool y)] [] (.d (.bool (kOr x y))) [] [] := by
  refine contract_of Try.func34 rfl (fun E0 => ?_)
  refine awp.sound (g := .mk) (ow := []) (kp := (fun k => k == 0 || k == 1 || k == 4)) ?_
  rw [Try.ntmps34]
  cases x <;> cases y <;> simp -dsimp <;> (try refine ⟨?_, ⟨by kernel_rfl⟩⟩) <;> refine Fin.of ?_ <;> simp [kOr]
theorem meet1_c (x y : Bool) : Contract Try.prog 35 [.d (.bool x), .d (.bool y)] [] (.d (.bool (kAnd x y))) [] [] := by
  refine contract_of Try.func35 rfl (fun E0 => ?_)
  refine awp.sound (g := .mk) (ow := []) (kp := (fun k => k == 0 || k == 1 || k == 4)) ?_
  rw [Try.ntmps35]
  cases x <;> cases y <;> simp -dsimp <;> (try refine ⟨?_, ⟨by kernel_rfl⟩⟩) <;> refine Fin.of ?_ <;> simp [kAnd]
theorem complement1_c (x y : Bool) : Contract Try.prog 32 [.d (.bool x), .d (.bool y)] [] (.d (.bool (kNot x y))) [] [] := by
  refine contract_of Try.func32 rfl (fun E0 => ?_)
  refine awp.sound (g := .mk) (ow := []) (kp := (fun k => k == 0 || k == 1 || k == 4)) ?_
  rw [Try.ntmps32]
  cases x <;> cases y <;> simp -dsimp <;> (try refine ⟨?_, ⟨by kernel_rfl⟩⟩) <;> refine Fin.of ?_ <;> simp [kNot]
theorem within1_c (x y : Bool) : Contract Try.prog 37 [.d (.bool x), .d (.bool y)] [] (.d (.bool (kLeft x y))) [] [] := by
  refine contract_of Try.func37 rfl (fun E0 => ?_)
  refine awp.sound (g := .mk) (ow := []) (kp := (fun k => k == 0 || k == 1 || k == 4)) ?_
  rw [Try.ntmps37]
  cases x <;> cases y <;> simp -dsimp <;> (try refine ⟨?_, ⟨by kernel_rfl⟩⟩) <;> refine Fin.of ?_ <;> simp [kLeft]
theorem union_c (a b : Flt) (ha : a.s.length ≤ 10000) (hb : b.s.length ≤ 10000) : Contract Try.prog 14 [fltT a, fltT b] [] (.tup [fltT (comb kOr a b).1, .d (.int .i64 (comb kOr a b).2)]) [] [] := by
  refine contract_of Try.func14 rfl (fun E0 => ?_)
  refine awp.sound (g := .mk) (ow := []) (kp := (fun k => k == 0 || k == 1 || k == 2 || k == 3 || k == 4 || k == 5)) ?_
  rw [Try.ntmps14]
  simp -dsimp [fltT]
  refine ACall.of (combine_c a b ha hb 34 kOr union1_c (by simp)) [] 0 ?_
  simp -dsimp [fltT]
  refine Fin.of ?_
  simp [fltT]
theorem meet_c (a b : Flt) (ha : a.s.length ≤ 10000) (hb : b.s.length ≤ 10000) : Contract Try.prog 15 [fltT a, fltT b] [] (.tup [fltT (comb kAnd a b).1, .d (.int .i64 (comb kAnd a b).2)]) [] [] := by
  refine contract_of Try.func15 rfl (fun E0 => ?_)
  refine awp.sound (g := .mk) (ow := []) (kp := (fun k => k == 0 || k == 1 || k == 2 || k == 3 || k == 4 || k == 5)) ?_
  rw [Try.ntmps15]
  simp -dsimp [fltT]
  refine ACall.of (combine_c a b ha hb 35 kAnd meet1_c (by simp)) [] 0 ?_
  simp -dsimp [fltT]
  refine Fin.of ?_
  simp [fltT]
theorem complement_c (f : Flt) (hf : f.s.length ≤ 10000) : Contract Try.prog 9 [fltT f] [] (.tup [fltT (comb kNot f f).1, .d (.int .i64 (comb kNot f f).2)]) [] [] := by
  refine contract_of Try.func9 rfl (fun E0 => ?_)
  refine awp.sound (g := .mk) (ow := []) (kp := (fun k => k == 0 || k == 1 || k == 2 || k == 3)) ?_
  rw [Try.ntmps9]
  simp -dsimp [fltT]
  refine ACall.of (combine_c f f hf hf 32 kNot complement1_c (by simp)) [] 0 ?_
  simp -dsimp [fltT]
  refine Fin.of ?_
  simp [fltT]
theorem ok_len {f : Flt} (h : f.Ok) : f.s.length ≤ 99 := by
  have h1 : f.s = rngI.filter (fun x => decide (x ∈ f.s)) := by
    refine asc_ext h.2.2 (List.Pairwise.filter _ rng_asc) fun x => ?_
    rw [List.mem_filter, mem_rng]
    constructor
    · intro hx; exact ⟨h.2.1 x hx, by simpa using hx⟩
    · intro hx; simpa using hx.2
  rw [h1]
  exact Nat.le_trans (List.length_filter_le _ _) (by simp [rngI])
theorem comb_len {K : Bool → Bool → Bool} {a b : Flt} : (comb K a b).1.s.length ≤ 99 := by
  by_cases h1 : vld a = 0
  · by_cases h2 : vld b = 0
    · rw [comb_ok (vld_zero.1 h1) (vld_zero.1 h2)]
      exact ok_len (combR_ok (vld_zero.1 h1) (vld_zero.1 h2))
    · simp [comb, h1, h2, noF]
  · simp [comb, h1, noF]
theorem within_c (a b : Flt) (ha : a.s.length ≤ 10000) (hb : b.s.length ≤ 10000) : Contract Try.prog 18 [fltT a, fltT b] [] (.d (.bool (wth a b))) [] [] := by
  rw [← wth_eq]
  refine contract_of Try.func18 rfl (fun E0 => ?_)
  refine awp.sound (g := .mk) (ow := []) (kp := (fun k => k == 0 || k == 1 || k == 2 || k == 3 || k == 4 || k == 5 || k == 6)) ?_
  rw [Try.ntmps18]
  simp -dsimp [fltT]
  refine ACall.of (combine_c a b ha hb 37 kLeft within1_c (by simp)) [] 0 ?_
  unfold wthP
  have hl := comb_len (K := kLeft) (a := a) (b := b)
  generalize comb kLeft a b = r at hl ⊢
  obtain ⟨⟨m, s⟩, e⟩ := r
  simp only at hl ⊢
  by_cases h0 : e = 0
  · by_cases h1 : m = 1
    · simp -dsimp [fltT, ints, h0, h1]
      and_intros
      all_goals try first | rfl | exact ⟨by kernel_rfl⟩
      refine Fin.of ?_
      simp [h0, h1]
    · simp -dsimp [fltT, ints, h0, h1]
      and_intros
      all_goals try first | rfl | exact ⟨by kernel_rfl⟩
      refine Fin.of ?_
      simp [h0, h1]
  · simp -dsimp [fltT, ints, h0]
    and_intros
    all_goals try first | rfl | exact ⟨by kernel_rfl⟩
    refine Fin.of ?_
    simp [h0]
theorem equal_c (a b : List Int) (hl : a.length ≤ 1000000) : Contract Try.prog 41 [.d (ints a), .d (ints b)] [] (.d (.bool (decide (a = b)))) [] [] := by
  refine contract_of Try.func41 rfl (fun E0 => ?_)
  refine awp.sound (g := .mk) (ow := []) (kp := (fun k => k == 0 || k == 1 || k == 4 || k == 5 || k == 10 || k == 12 || k == 13 || k == 14 || k == 24)) ?_
  rw [Try.ntmps41]
  by_cases hlen : a.length = b.length
  · simp -dsimp [ints, hlen]
    refine ALoop.of [] (fun k => k == 0 || k == 1 || k == 4 || k == 5 || k == 10 || k == 12 || k == 13 || k == 14 || k == 24) (ι := { i : Nat // i ≤ b.length ∧ ∀ j, j < i → a[j]? = b[j]? }) (fun z => [(Pl.s 0, It.v (.d (ints a))), (Pl.s 1, It.v (.d (ints b))), (Pl.s 4, It.v (.d (.bool false))), (Pl.s 10, It.v (.d (.bool false))),
      (Pl.s 12, It.v (TV.d (D.int IntKind.i64 b.length))), (Pl.s 13, It.v (TV.d (D.int IntKind.i64 z.1)))]) (fun z => b.length - z.1) ⟨0, by omega, fun j h => by omega⟩ ?_ ?_
    · exact GS.to (by simp [ints])
    · rintro ⟨i, i1, i2⟩
      by_cases hi' : i < b.length
      · have hi : i < a.length := by omega
        by_cases h : a[i] = b[i]
        · simp -dsimp [ints, hi, hi', h, wrap_i64 (n := (i : Int) + 1) (by omega) (by omega)]
          try refine ⟨?_, ⟨by kernel_rfl⟩⟩
          exact ⟨⟨i + 1, by omega, fun j hj => by
            by_cases e : j = i
            · subst e; rw [List.getElem?_eq_getElem hi, List.getElem?_eq_getElem hi', h]
            · exact i2 j (by omega)⟩, GS.to (by simp [ints]), by simp; omega⟩
        · simp -dsimp [ints, hi, hi', h, wrap_i64 (n := (i : Int) + 1) (by omega) (by omega)]
          try refine ⟨?_, ⟨by kernel_rfl⟩⟩
          refine Fin.of ?_
          have : a ≠ b := fun e => by subst e; exact h rfl
          simp [this]
      · simp -dsimp [ints, hi']
        refine Fin.of ?_
        have : a = b := List.ext_getElem? fun j => by
          by_cases hj : j < i
          · exact i2 j hj
          · rw [List.getElem?_eq_none (by omega), List.getElem?_eq_none (by omega)]
        simp [this]
  · have hlen' : ¬ (a.length : Int) = b.length := by omega
    simp -dsimp [ints, hlen, hlen']
    refine Fin.of ?_
    have : a ≠ b := fun e => hlen (by rw [e])
    simp [this]
theorem same_c (f g : Flt) (hf : f.s.length ≤ 1000000) : Contract Try.prog 28 [fltT f, fltT g] [] (.d (.bool (decide (f.m = g.m) && decide (f.s = g.s)))) [] [] := by
  refine contract_of Try.func28 rfl (fun E0 => ?_)
  refine awp.sound (g := .mk) (ow := []) (kp := (fun k => k == 0 || k == 1 || k == 2 || k == 3 || k == 4)) ?_
  rw [Try.ntmps28]
  by_cases h0 : f.m = g.m
  · simp -dsimp [fltT, h0]
    refine ACall.of (equal_c f.s g.s hf) [] 0 ?_
    simp -dsimp [h0]
    try refine ⟨?_, ⟨by kernel_rfl⟩⟩
    refine Fin.of ?_
    simp [h0]
  · simp -dsimp [fltT, h0]
    try refine ⟨?_, ⟨by kernel_rfl⟩⟩
    refine Fin.of ?_
    simp [h0]
end Go.Proofs
