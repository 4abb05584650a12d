/-
  What functions of the program compute, stated as contracts over plain data; the conditions of each stand in its own statement.
-/
import Derived.Test.YtkhgmgelbgondaaB1
set_option linter.unusedSimpArgs false
set_option maxRecDepth 100000
set_option maxHeartbeats 1000000
namespace Go.Proofs
open Go Go.Tr

theorem gPick_mem (T : Tp) {l : List Int} (h : 0 < l.length) : (gPick T l).1 ∈ l := by
  have h1 := gNext_nonneg T l.length
  have h2 := gNext_lt T (n := l.length) (by omega)
  have h3 : (gNext T l.length).1.toNat < l.length := by omega
  unfold gPick
  rw [List.getD_eq_getElem?_getD, List.getElem?_eq_getElem h3]
  exact List.getElem_mem h3
theorem gSrcL_asc : ∀ (n : Nat) (T : Tp) (l : List Int), l.Pairwise (· < ·) → (∀ x ∈ l, 1 ≤ x ∧ x ≤ 99) → (gSrcL n T l).1.Pairwise (· < ·) ∧ ∀ x ∈ (gSrcL n T l).1, 1 ≤ x ∧ x ≤ 99
  | 0, _, _, h, g => ⟨h, g⟩
  | n + 1, T, l, h, g => by
    simp only [gSrcL]
    have a1 := gRange_lo T 1 6
    have a2 := gRange_hi T (a := 1) (b := 6) (by omega)
    have b1 := gRange_lo (gRange T 1 6).2 1 20
    have b2 := gRange_hi (gRange T 1 6).2 (a := 1) (b := 20) (by omega)
    have c1 := gRange_lo (gRange (gRange T 1 6).2 1 20).2 1 99
    have c2 := gRange_hi (gRange (gRange T 1 6).2 1 20).2 (a := 1) (b := 99) (by omega)
    have p1 := gPick_mem (gRange (gRange (gRange T 1 6).2 1 20).2 1 99).2 (l := [(gRange T 1 6).1, (gRange (gRange T 1 6).2 1 20).1, (gRange (gRange (gRange T 1 6).2 1 20).2 1 99).1]) (by simp)
    simp only [List.mem_cons, List.not_mem_nil, or_false] at p1
    generalize gPick (gRange (gRange (gRange T 1 6).2 1 20).2 1 99).2 [(gRange T 1 6).1, (gRange (gRange T 1 6).2 1 20).1, (gRange (gRange (gRange T 1 6).2 1 20).2 1 99).1] = p at p1 ⊢
    obtain ⟨q1, q2⟩ := insI_asc p.1 h
    exact gSrcL_asc n p.2 (insI l p.1) q1 fun x hx => ((q2 x).1 hx).elim (g x) fun e => by omega
theorem gFlt_flt (T : Tp) : (gFlt T).1.Ok := by
  have m1 := gRange_lo (gPick T fpicks).2 1 2
  have m2 := gRange_hi (gPick T fpicks).2 (a := 1) (b := 2) (by omega)
  obtain ⟨h1, h2⟩ := gSrcL_asc (gNext (gRange (gPick T fpicks).2 1 2).2 ((gPick T fpicks).1 + 1)).1.toNat (gNext (gRange (gPick T fpicks).2 1 2).2 ((gPick T fpicks).1 + 1)).2 [] .nil (by simp)
  exact ⟨by simp only [gFlt]; omega, h2, h1⟩
theorem ok_le {f : Flt} (h : f.Ok) : f.s.length ≤ 10000 := Nat.le_trans (ok_len h) (by omega)
@[simp] theorem tape_obj (T : Tp) : isObj (tapeI T) = true := rfl

theorem same_eq {f g : Flt} (e : f = g) (h : f.Ok) : Contract Try.prog 50 [fltT f, fltT g] [] (.d (.bool true)) [] [] := by
  have := rsame_c f g (Nat.le_trans (ok_le h) (by omega))
  subst e
  simpa using this

theorem union_ok {a b : Flt} (ha : a.Ok) (hb : b.Ok) : Contract Try.prog 41 [fltT a, fltT b] [] (.tup [fltT (combR kOr a b), .d (.int .i64 0)]) [] [] := by
  have := union_c a b (ok_le ha) (ok_le hb)
  rwa [comb_ok ha hb] at this
theorem aw1 : Flt.Ok ⟨1, [1, 2]⟩ := ⟨.inl rfl, by simp, by simp⟩
theorem aw2 : Flt.Ok ⟨2, [2, 3]⟩ := ⟨.inr rfl, by simp, by simp⟩
theorem aw3 : Flt.Ok ⟨2, [3]⟩ := ⟨.inr rfl, by simp, by simp⟩
theorem aw4 : Flt.Ok ⟨1, [1]⟩ := ⟨.inl rfl, by simp, by simp⟩
theorem awU : combR kOr ⟨1, [1, 2]⟩ ⟨2, [2, 3]⟩ = ⟨2, [3]⟩ := Flt.ext_w (combR_ok aw1 aw2) aw3 fun s _ _ => by
  rw [combR_wnt aw1 aw2]
  by_cases h1 : s = 1
  · subst h1; simp [wnt, kOr]
  · by_cases h2 : s = 2
    · subst h2; simp [wnt, kOr]
    · by_cases h3 : s = 3
      · subst h3; simp [wnt, kOr]
      · simp [wnt, kOr, h1, h2, h3]
theorem awM : combR kAnd ⟨1, [1, 2]⟩ ⟨2, [2, 3]⟩ = ⟨1, [1]⟩ := Flt.ext_w (combR_ok aw1 aw2) aw4 fun s _ _ => by
  rw [combR_wnt aw1 aw2]
  by_cases h1 : s = 1
  · subst h1; simp [wnt, kAnd]
  · by_cases h2 : s = 2
    · subst h2; simp [wnt, kAnd]
    · by_cases h3 : s = 3
      · subst h3; simp [wnt, kAnd]
      · simp [wnt, kAnd, h1, h2, h3]
end Go.Proofs

