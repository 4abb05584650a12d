/-
  What functions of the program compute, stated as contracts over plain data; the conditions of each stand in its own statement.
-/
import Derived.Test.YtikjmlimnkfliaaB1
set_option linter.unusedSimpArgs false
set_option maxRecDepth 100000
set_option maxHeartbeats 1000000
namespace Go.Proofs
open Go Go.Tr

theorem gPick_mem (T : Tp) {l : List Int} (h : 0 < l.length) : (gPick T l).1 ∈ l := by
  have h1 := gNext_nonneg T l.length
  have h2 := gNext_lt T (n := l.length) (by omega)
  have h3 : (gNext T l.length).1.toNat < l.length := by omega
  unfold gPick
  rw [List.getD_eq_getElem?_getD, List.getElem?_eq_getElem h3]
  exact List.getElem_mem h3
theorem gSrcL_asc : ∀ (n : Nat) (T : Tp) (l : List Int), l.Pairwise (· < ·) → (∀ x ∈ l, 1 ≤ x ∧ x ≤ 99) → (gSrcL n T l).1.Pairwise (· < ·) ∧ ∀ x ∈ (gSrcL n T l).1, 1 ≤ x ∧ x ≤ 99
  | 0, _, _, h, g => ⟨h, g⟩
  | n + 1, T, l, h, g => by
    simp only [gSrcL]
    have a1 := gRange_lo T 1 6
    have a2 := gRange_hi T (a := 1) (b := 6) (by omega)
    have b1 := gRange_lo (gRange T 1 6).2 1 20
    have b2 := gRange_hi (gRange T 1 6).2 (a := 1) (b := 20) (by omega)
    have c1 := gRange_lo (gRange (gRange T 1 6).2 1 20).2 1 99
    have c2 := gRange_hi (gRange (gRange T 1 6).2 1 20).2 (a := 1) (b := 99) (by omega)
    have p1 := gPick_mem (gRange (gRange (gRange T 1 6).2 1 20).2 1 99).2 (l := [(gRange T 1 6).1, (gRange (gRange T 1 6).2 1 20).1, (gRange (gRange (gRange T 1 6).2 1 20).2 1 99).1]) (by simp)
    simp only [List.mem_cons, List.not_mem_nil, or_false] at p1
    generalize gPick (gRange (gRange (gRange T 1 6).2 1 20).2 1 99).2 [(gRange T 1 6).1, (gRange (gRange T 1 6).2 1 20).1, (gRange (gRange (gRange T 1 6).2 1 20).2 1 99).1] = p at p1 ⊢
    obtain ⟨q1, q2⟩ := insI_asc p.1 h
    exact gSrcL_asc n p.2 (insI l p.1) q1 fun x hx => ((q2 x).1 hx).elim (g x) fun e => by omega
theorem gFlt_flt (T : Tp) : (gFlt T).1.Ok := by
  have m1 := gRange_lo (gPick T fpicks).2 1 2
  have m2 := gRange_hi (gPick T fpicks).2 (a := 1) (b := 2) (by omega)
  obtain ⟨h1, h2⟩ := gSrcL_asc (gNext (gRange (gPick T fpicks).2 1 2).2 ((gPick T fpicks).1 + 1)).1.toNat (gNext (gRange (gPick T fpicks).2 1 2).2 ((gPick T fpicks).1 + 1)).2 [] .nil (by simp)
  exact ⟨by simp only [gFlt]; omega, h2, h1⟩
theorem ok_le {f : Flt} (h : f.Ok) : f.s.length ≤ 10000 := Nat.le_trans (ok_len h) (by omega)
@[simp] theorem tape_obj (T : Tp) : isObj (tapeI T) = true := rfl

theorem same_eq {f g : Flt} (e : f = g) (h : f.Ok) : Contract Try.prog 10 [fltT f, fltT g] [] (.d (.bool true)) [] [] := by
  have := rsame_c f g (Nat.le_trans (ok_le h) (by omega))
  subst e
  simpa using this

theorem union_ok {a b : Flt} (ha : a.Ok) (hb : b.Ok) : Contract Try.prog 14 [fltT a, fltT b] [] (.tup [fltT (combR kOr a b), .d (.int .i64 0)]) [] [] := by
  have := union_c a b (ok_le ha) (ok_le hb)
  rwa [comb_ok ha hb] at this
theorem lunion_c {a b : Flt} (ha : a.Ok) (hb : b.Ok) : Contract Try.prog 11 [fltT a, fltT b] [] (fltT (combR kOr a b)) [] [] := by
  refine contract_of Try.func11 rfl (fun E0 => ?_)
  refine awp.sound (g := .mk) (ow := []) (kp := (fun k => k == 0 || k == 1 || k == 2 || k == 3 || k == 4 || k == 5)) ?_
  rw [Try.ntmps11]
  simp -dsimp [fltT]
  refine ACall.of (union_ok ha hb) [] 0 ?_
  simp -dsimp [fltT]
  refine Fin.of ?_
  simp [fltT]
theorem meet_ok {a b : Flt} (ha : a.Ok) (hb : b.Ok) : Contract Try.prog 15 [fltT a, fltT b] [] (.tup [fltT (combR kAnd a b), .d (.int .i64 0)]) [] [] := by
  have := meet_c a b (ok_le ha) (ok_le hb)
  rwa [comb_ok ha hb] at this
theorem lmeet_c {a b : Flt} (ha : a.Ok) (hb : b.Ok) : Contract Try.prog 12 [fltT a, fltT b] [] (fltT (combR kAnd a b)) [] [] := by
  refine contract_of Try.func12 rfl (fun E0 => ?_)
  refine awp.sound (g := .mk) (ow := []) (kp := (fun k => k == 0 || k == 1 || k == 2 || k == 3 || k == 4 || k == 5)) ?_
  rw [Try.ntmps12]
  simp -dsimp [fltT]
  refine ACall.of (meet_ok ha hb) [] 0 ?_
  simp -dsimp [fltT]
  refine Fin.of ?_
  simp [fltT]
theorem complement_ok {a : Flt} (ha : a.Ok) : Contract Try.prog 9 [fltT a] [] (.tup [fltT (combR kNot a a), .d (.int .i64 0)]) [] [] := by
  have := complement_c a (ok_le ha)
  rwa [comb_ok ha ha] at this
theorem aw1 : Flt.Ok ⟨1, [1, 2]⟩ := ⟨.inl rfl, by simp, by simp⟩
theorem aw2 : Flt.Ok ⟨2, [2, 3]⟩ := ⟨.inr rfl, by simp, by simp⟩
theorem aw3 : Flt.Ok ⟨2, [3]⟩ := ⟨.inr rfl, by simp, by simp⟩
theorem aw4 : Flt.Ok ⟨1, [1]⟩ := ⟨.inl rfl, by simp, by simp⟩
theorem awU : combR kOr ⟨1, [1, 2]⟩ ⟨2, [2, 3]⟩ = ⟨2, [3]⟩ := Flt.ext_w (combR_ok aw1 aw2) aw3 fun s _ _ => by
  rw [combR_wnt aw1 aw2]
  by_cases h1 : s = 1
  · subst h1; simp [wnt, kOr]
  · by_cases h2 : s = 2
    · subst h2; simp [wnt, kOr]
    · by_cases h3 : s = 3
      · subst h3; simp [wnt, kOr]
      · simp [wnt, kOr, h1, h2, h3]
theorem awM : combR kAnd ⟨1, [1, 2]⟩ ⟨2, [2, 3]⟩ = ⟨1, [1]⟩ := Flt.ext_w (combR_ok aw1 aw2) aw4 fun s _ _ => by
  rw [combR_wnt aw1 aw2]
  by_cases h1 : s = 1
  · subst h1; simp [wnt, kAnd]
  · by_cases h2 : s = 2
    · subst h2; simp [wnt, kAnd]
    · by_cases h3 : s = 3
      · subst h3; simp [wnt, kAnd]
      · simp [wnt, kAnd, h1, h2, h3]
theorem awake_c : Contract Try.prog 13 [] [] (.d (.bool true)) [] [] := by
  have hU := union_ok aw1 aw2
  have hM := meet_ok aw1 aw2
  have w2 := fwants_c ⟨2, [3]⟩ (by simp) 2
  have w3 := fwants_c ⟨2, [3]⟩ (by simp) 3
  rw [wntV_ok aw3 (by omega)] at w2 w3
  have e2 : wnt ⟨2, [3]⟩ 2 = true := by simp [wnt]
  have e3 : wnt ⟨2, [3]⟩ 3 = false := by simp [wnt]
  rw [e2] at w2
  rw [e3] at w3
  rw [awU] at hU
  rw [awM] at hM
  refine contract_of Try.func13 rfl (fun E0 => ?_)
  refine awp.sound (g := .mk) (ow := []) (kp := (fun k => k == 0 || k == 1 || k == 2 || k == 3 || k == 4 || k == 5 || k == 6)) ?_
  rw [Try.ntmps13]
  simp -dsimp
  refine ACall.of hU [] 0 ?_
  simp -dsimp [fltT, ints]
  refine ACall.of hM [] 0 ?_
  simp -dsimp [fltT, ints]
  refine ACall.of (same_eq rfl aw3) [] 0 ?_
  simp -dsimp [fltT, ints]
  refine ACall.of (same_eq rfl aw4) [] 0 ?_
  simp -dsimp [fltT, ints]
  refine ACall.of w2 [] 0 ?_
  simp -dsimp [fltT, ints]
  refine ACall.of w3 [] 0 ?_
  simp -dsimp [fltT, ints]
  and_intros
  all_goals try first | rfl | exact ⟨by kernel_rfl⟩
  refine Fin.of ?_
  simp
end Go.Proofs

