/-
  What functions of the program compute, stated as contracts over plain data; the conditions of each stand in its own statement.
-/
import Derived.Test.YtkhgmgelbgondaaA8
import Derived.Test.YtkhgmgelbgondaaA6
set_option linter.unusedSimpArgs false
set_option maxRecDepth 100000
set_option maxHeartbeats 1000000
namespace Go.Proofs
open Go Go.Tr

theorem union1_c (x y : Bool) : Contract Try.prog 77 [.d (.bool x), .d (.bool y)] [] (.d (.bool (kOr x y))) [] [] := by
  refine contract_of Try.func77 rfl (fun E0 => ?_)
  refine awp.sound (g := .mk) (ow := []) (kp := (fun k => k == 0 || k == 1 || k == 4)) ?_
  rw [Try.ntmps77]
  cases x <;> cases y <;> simp -dsimp <;> (try refine ⟨?_, ⟨by kernel_rfl⟩⟩) <;> refine Fin.of ?_ <;> simp [kOr]
theorem union_c (a b : Flt) (ha : a.s.length ≤ 10000) (hb : b.s.length ≤ 10000) : Contract Try.prog 41 [fltT a, fltT b] [] (.tup [fltT (comb kOr a b).1, .d (.int .i64 (comb kOr a b).2)]) [] [] := by
  refine contract_of Try.func41 rfl (fun E0 => ?_)
  refine awp.sound (g := .mk) (ow := []) (kp := (fun k => k == 0 || k == 1 || k == 2 || k == 3 || k == 4 || k == 5)) ?_
  rw [Try.ntmps41]
  simp -dsimp [fltT]
  refine ACall.of (combine_c a b ha hb 77 kOr union1_c (by simp)) [] 0 ?_
  simp -dsimp [fltT]
  refine Fin.of ?_
  simp [fltT]
theorem ok_len {f : Flt} (h : f.Ok) : f.s.length ≤ 99 := by
  have h1 : f.s = rngI.filter (fun x => decide (x ∈ f.s)) := by
    refine asc_ext h.2.2 (List.Pairwise.filter _ rng_asc) fun x => ?_
    rw [List.mem_filter, mem_rng]
    constructor
    · intro hx; exact ⟨h.2.1 x hx, by simpa using hx⟩
    · intro hx; simpa using hx.2
  rw [h1]
  exact Nat.le_trans (List.length_filter_le _ _) (by simp [rngI])
theorem comb_len {K : Bool → Bool → Bool} {a b : Flt} : (comb K a b).1.s.length ≤ 99 := by
  by_cases h1 : vld a = 0
  · by_cases h2 : vld b = 0
    · rw [comb_ok (vld_zero.1 h1) (vld_zero.1 h2)]
      exact ok_len (combR_ok (vld_zero.1 h1) (vld_zero.1 h2))
    · simp [comb, h1, h2, noF]
  · simp [comb, h1, noF]
theorem equal_cL (a b : List Int) (hl : a.length ≤ 9223372036854775807) : Contract Try.prog 82 [.d (ints a), .d (ints b)] [] (.d (.bool (decide (a = b)))) [] [] := by
  refine contract_of Try.func82 rfl (fun E0 => ?_)
  refine awp.sound (g := .mk) (ow := []) (kp := (fun k => k == 0 || k == 1 || k == 4 || k == 5 || k == 10 || k == 12 || k == 13 || k == 14 || k == 24)) ?_
  rw [Try.ntmps82]
  by_cases hlen : a.length = b.length
  · simp -dsimp [ints, hlen]
    refine ALoop.of [] (fun k => k == 0 || k == 1 || k == 4 || k == 5 || k == 10 || k == 12 || k == 13 || k == 14 || k == 24) (ι := { i : Nat // i ≤ b.length ∧ ∀ j, j < i → a[j]? = b[j]? }) (fun z => [(Pl.s 0, It.v (.d (ints a))), (Pl.s 1, It.v (.d (ints b))), (Pl.s 4, It.v (.d (.bool false))), (Pl.s 10, It.v (.d (.bool false))),
      (Pl.s 12, It.v (TV.d (D.int IntKind.i64 b.length))), (Pl.s 13, It.v (TV.d (D.int IntKind.i64 z.1)))]) (fun z => b.length - z.1) ⟨0, by omega, fun j h => by omega⟩ ?_ ?_
    · exact GS.to (by simp [ints])
    · rintro ⟨i, i1, i2⟩
      by_cases hi' : i < b.length
      · have hi : i < a.length := by omega
        by_cases h : a[i] = b[i]
        · simp -dsimp [ints, hi, hi', h, wrap_i64 (n := (i : Int) + 1) (by omega) (by omega)]
          try refine ⟨?_, ⟨by kernel_rfl⟩⟩
          exact ⟨⟨i + 1, by omega, fun j hj => by
            by_cases e : j = i
            · subst e; rw [List.getElem?_eq_getElem hi, List.getElem?_eq_getElem hi', h]
            · exact i2 j (by omega)⟩, GS.to (by simp [ints]), by simp; omega⟩
        · simp -dsimp [ints, hi, hi', h, wrap_i64 (n := (i : Int) + 1) (by omega) (by omega)]
          try refine ⟨?_, ⟨by kernel_rfl⟩⟩
          refine Fin.of ?_
          have : a ≠ b := fun e => by subst e; exact h rfl
          simp [this]
      · simp -dsimp [ints, hi']
        refine Fin.of ?_
        have : a = b := List.ext_getElem? fun j => by
          by_cases hj : j < i
          · exact i2 j hj
          · rw [List.getElem?_eq_none (by omega), List.getElem?_eq_none (by omega)]
        simp [this]
  · have hlen' : ¬ (a.length : Int) = b.length := by omega
    simp -dsimp [ints, hlen, hlen']
    refine Fin.of ?_
    have : a ≠ b := fun e => hlen (by rw [e])
    simp [this]
theorem equal_c (a b : List Int) (hl : a.length ≤ 1000000) : Contract Try.prog 82 [.d (ints a), .d (ints b)] [] (.d (.bool (decide (a = b)))) [] [] := equal_cL a b (Nat.le_trans hl (by decide))
theorem same_cL (f g : Flt) (hf : f.s.length ≤ 9223372036854775807) : Contract Try.prog 57 [fltT f, fltT g] [] (.d (.bool (decide (f.m = g.m) && decide (f.s = g.s)))) [] [] := by
  refine contract_of Try.func57 rfl (fun E0 => ?_)
  refine awp.sound (g := .mk) (ow := []) (kp := (fun k => k == 0 || k == 1 || k == 2 || k == 3 || k == 4)) ?_
  rw [Try.ntmps57]
  by_cases h0 : f.m = g.m
  · simp -dsimp [fltT, h0]
    refine ACall.of (equal_cL f.s g.s hf) [] 0 ?_
    simp -dsimp [h0]
    try refine ⟨?_, ⟨by kernel_rfl⟩⟩
    refine Fin.of ?_
    simp [h0]
  · simp -dsimp [fltT, h0]
    try refine ⟨?_, ⟨by kernel_rfl⟩⟩
    refine Fin.of ?_
    simp [h0]
theorem same_c (f g : Flt) (hf : f.s.length ≤ 1000000) : Contract Try.prog 57 [fltT f, fltT g] [] (.d (.bool (decide (f.m = g.m) && decide (f.s = g.s)))) [] [] := same_cL f g (Nat.le_trans hf (by decide))
end Go.Proofs
