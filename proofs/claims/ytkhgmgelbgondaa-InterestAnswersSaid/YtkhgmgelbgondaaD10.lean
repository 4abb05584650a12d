/-
  What functions of the program compute, stated as contracts over plain data; the conditions of each stand in its own statement.
-/
import Derived.Test.YtkhgmgelbgondaaD9
set_option linter.unusedSimpArgs false
set_option maxRecDepth 100000
set_option maxHeartbeats 8000000
namespace Go.Proofs
open Go Go.Tr

def repL (m : Mbs) (h g : Int) (f : Flt) (life : Int) : Mbs := ⟨m.now, if f.non = true then woM h g m.l else wiM ⟨h, g, f, m.now + life⟩ (woM h g m.l)⟩
theorem find_at {l : List Mem} {q : Mem → Bool} {i : Nat} {x : Mem} (hx : l[i]? = some x) (hq : q x = true) (h : ∀ a, a < i → ∀ y, l[a]? = some y → q y = false) : l.find? q = some x := by
  induction l generalizing i with
  | nil => simp at hx
  | cons y l ih =>
    cases i with
    | zero => simp at hx; subst hx; simp [hq]
    | succ i =>
      have h0 := h 0 (by omega) y rfl
      rw [List.find?_cons, h0]
      exact ih (by simpa using hx) fun a ha z hz => h (a + 1) (by omega) z (by simpa using hz)
theorem find_no {l : List Mem} {q : Mem → Bool} (h : ∀ a, a < l.length → ∀ y, l[a]? = some y → q y = false) : l.find? q = none := by
  rw [List.find?_eq_none]
  intro x hx
  obtain ⟨a, ha⟩ := List.getElem?_of_mem hx
  simp [h a (List.getElem?_eq_some_iff.1 ha).1 x ha]
theorem report_c (m : Mbs) (hv : vldM m = 0) (h g : Int) (hh : 1 ≤ h ∧ h ≤ 99) (hg : 1 ≤ g ∧ g ≤ 99) (f : Flt) (hf : f.Ok) (life : Int) (hl : 1 ≤ life ∧ life ≤ 1000) (hn : m.l.length < 64) :
    Contract Try.prog 18 [mbsT m, .d (.int .i64 h), .d (.int .i64 g), fltT f, .d (.int .i64 life)] [] (.tup [mbsT (repL m h g f life), .d (.int .i64 0)]) [] [] := by
  obtain ⟨v1, v2, v3, v4, v5, v6⟩ := vldM_zero hv
  have hfl : ∀ x ∈ m.l, x.f.s.length ≤ 1000000 := fun x hx => by have := ok_len (v4 x hx); omega
  have hV := rvalidM_c m (by omega) hfl
  have hF := rvalidate_c f (by have := ok_len hf; omega)
  have hW := without_c m (by omega) h g
  have hN := nothing_c
  have hS := rsame_c f nF (by have := ok_len hf; omega)
  have hwl : (woM h g m.l).length ≤ m.l.length := List.length_filter_le _ _
  have hI := with_c ⟨m.now, woM h g m.l⟩ (by simp only; omega) ⟨h, g, f, m.now + life⟩
  rw [hf.vld] at hF
  rw [hv] at hV
  simp only [mbsT, fltT, nF] at hV hF hW hN hS hI
  simp only [mems] at hI
  have c1 : ¬ h < 1 := by omega
  have c2 : ¬ 99 < h := by omega
  have c3 : ¬ g < 1 := by omega
  have c4 : ¬ 99 < g := by omega
  have c5 : ¬ life < 1 := by omega
  have c6 : ¬ 1000 < life := by omega
  refine contract_of Try.func18 rfl (fun E0 => ?_)
  refine awp.sound (g := .mk) (ow := []) (kp := (fun k => k == 0 || k == 1 || k == 2 || k == 3 || k == 4 || k == 5 || k == 8 || k == 10 || k == 11 || k == 12 || k == 13 || k == 14 || k == 18 || k == 42 || k == 47 || k == 56 || k == 61)) ?_
  rw [Try.ntmps18]
  simp -dsimp [mbsT, fltT]
  refine ACall.of hV [] 0 ?_
  simp -dsimp [c1, c2, c3, c4, c5, c6]
  refine ACall.of hF [] 0 ?_
  simp -dsimp
  refine ACall.of hW [] 0 ?_
  simp -dsimp
  refine ACall.of hN [] 0 ?_
  simp -dsimp
  refine ACall.of hS [] 0 ?_
  by_cases b1 : f = nF
  · have b2 : f.m = 1 := by rw [b1]; rfl
    have b3 : f.s = [] := by rw [b1]; rfl
    have hn : f.non = true := Flt.non_iff.2 b1
    simp -dsimp [b2, b3]
    and_intros
    all_goals try first | rfl | omega | exact ⟨by kernel_rfl⟩
    refine Fin.of ?_
    simp [repL, hn, mbsT]
  · have hn' : f.non = false := by
      cases hh : f.non with
      | false => rfl
      | true => exact absurd (Flt.non_iff.1 hh) b1
    have hlt : ¬ (64 : Int) ≤ (woM h g m.l).length := by omega
    have hr : repL m h g f life = ⟨m.now, wiM ⟨h, g, f, m.now + life⟩ (woM h g m.l)⟩ := by simp [repL, hn']
    have b2 : ¬ f.m = 1 ∨ ¬ f.s = [] := by
      by_cases e : f.m = 1
      · refine .inr (fun e2 => b1 ?_)
        obtain ⟨ym, ys⟩ := f
        simp only at e e2
        rw [e, e2]; rfl
      · exact .inl e
    rw [hr]
    rcases b2 with b2 | b2
    · simp -dsimp [b2, mems, hlt, wrap_i64 (n := m.now + life) (by omega) (by omega)]
      refine ⟨?_, ⟨by kernel_rfl⟩⟩
      refine ACall.of hI [] 0 ?_
      simp -dsimp
      and_intros
      all_goals try first | rfl | omega | exact ⟨by kernel_rfl⟩
      refine Fin.of ?_
      simp [mbsT, mems]
    · simp -dsimp [b2, mems, hlt, wrap_i64 (n := m.now + life) (by omega) (by omega)]
      refine ⟨?_, ⟨by kernel_rfl⟩⟩
      refine ACall.of hI [] 0 ?_
      simp -dsimp
      and_intros
      all_goals try first | rfl | omega | exact ⟨by kernel_rfl⟩
      refine Fin.of ?_
      simp [mbsT, mems]
theorem rfindM_c (m : Mbs) (hv : vldM m = 0) (h g : Int) : Contract Try.prog 60 [mbsT m, .d (.int .i64 h), .d (.int .i64 g)] []
    (.tup [match m.l.find? fun x => !woQ h g x with | some x => .agg [.d (.int .i64 x.h), .d (.int .i64 x.g), .d (.int .i64 x.f.m), .d (ints x.f.s), .d (.int .i64 x.u)] | none => .agg [.d (.int .i64 0), .d (.int .i64 0), .d (.int .i64 0), .d (ints []), .d (.int .i64 0)], .d (.bool (m.l.any fun x => !woQ h g x))]) [] [] := by
  obtain ⟨v1, v2, v3, v4, v5, v6⟩ := vldM_zero hv
  have hfl : ∀ x ∈ m.l, x.f.s.length ≤ 1000000 := fun x hx => by have := ok_len (v4 x hx); omega
  have hV := rvalidM_c m (by omega) hfl
  rw [hv] at hV
  simp only [mbsT] at hV
  refine contract_of Try.func60 rfl (fun E0 => ?_)
  refine awp.sound (g := .mk) (ow := []) (kp := (fun k => k == 0 || k == 1 || k == 2 || k == 3 || k == 6 || k == 7 || k == 9 || k == 12 || k == 14 || k == 15 || k == 16 || k == 17 || k == 29)) ?_
  rw [Try.ntmps60]
  simp -dsimp [mbsT]
  refine ACall.of hV [] 0 ?_
  simp -dsimp [mems]
  refine ALoop.of [] (fun k => k == 0 || k == 1 || k == 2 || k == 3 || k == 6 || k == 7 || k == 9 || k == 12 || k == 14 || k == 15 || k == 16 || k == 17 || k == 29) (ι := { i : Nat // i ≤ m.l.length ∧ ∀ a, a < i → ∀ y, m.l[a]? = some y → (!woQ h g y) = false })
    (fun z => [(Pl.s 1, It.v (TV.d (D.int IntKind.i64 h))), (Pl.s 2, It.v (TV.d (D.int IntKind.i64 g))),
      (Pl.o 6, It.box [TV.d (D.int IntKind.i64 0), TV.d (D.int IntKind.i64 0), TV.d (D.int IntKind.i64 0), TV.c (Value.slice none 0 0), TV.d (D.int IntKind.i64 0)]),
      (Pl.s 6, It.v (TV.ptr (Pl.o 6) 0)), (Pl.s 7, It.v (TV.d (D.bool false))),
      (Pl.s 14, It.v (TV.d (D.sl (List.map memC m.l)))), (Pl.s 15, It.v (TV.d (D.int IntKind.i64 m.l.length))), (Pl.s 16, It.v (TV.d (D.int IntKind.i64 z.1)))])
    (fun z => m.l.length - z.1) ⟨0, by omega, fun a h => by omega⟩ ?_ ?_
  · exact GS.to (by simp)
  · rintro ⟨i, i1, i2⟩
    by_cases hi : i < m.l.length
    · have hiz : (i : Int) < m.l.length := by omega
      have hg : m.l[i]? = some m.l[i] := List.getElem?_eq_getElem hi
      have hm : m.l[i] ∈ m.l := List.getElem_mem hi
      generalize m.l[i] = y at hg hm
      have nx : (!woQ h g y) = false → ∀ a, a < i + 1 → ∀ y, m.l[a]? = some y → (!woQ h g y) = false := fun hb a ha z hz => by
        by_cases e : a = i
        · subst e; rw [hg] at hz; simp only [Option.some.injEq] at hz; subst hz; exact hb
        · exact i2 a (by omega) z hz
      by_cases b1 : y.h = h
      · by_cases b2 : y.g = g
        · have hq : (!woQ h g y) = true := by simp [woQ, b1, b2]
          have hfd := find_at (q := fun x => !woQ h g x) hg hq i2
          have hany : (m.l.any fun x => !woQ h g x) = true := List.any_eq_true.2 ⟨y, hm, hq⟩
          rw [hfd, hany]
          simp -dsimp [hg, memC, hiz, eq_true b1, eq_true b2]
          and_intros
          all_goals try first | rfl | omega | exact ⟨by kernel_rfl⟩
          refine Fin.of ?_
          simp [b1, b2]
        · simp -dsimp [hg, memC, hiz, eq_true b1, b2, wrap_i64 (n := (i : Int) + 1) (by omega) (by omega)]
          and_intros
          all_goals try first | rfl | omega | exact ⟨by kernel_rfl⟩
          exact ⟨⟨i + 1, by omega, nx (by simp [woQ, b2])⟩, GS.to (by simp), by simp; omega⟩
      · simp -dsimp [hg, memC, hiz, b1, wrap_i64 (n := (i : Int) + 1) (by omega) (by omega)]
        and_intros
        all_goals try first | rfl | omega | exact ⟨by kernel_rfl⟩
        exact ⟨⟨i + 1, by omega, nx (by simp [woQ, b1])⟩, GS.to (by simp), by simp; omega⟩
    · have hiz : ¬ (i : Int) < m.l.length := by omega
      have hfd := find_no (l := m.l) (q := fun x => !woQ h g x) fun a ha => i2 a (by omega)
      have hany : (m.l.any fun x => !woQ h g x) = false := List.any_eq_false.2 fun x hx => by
        obtain ⟨a, ha⟩ := List.getElem?_of_mem hx
        rw [i2 a (by have := (List.getElem?_eq_some_iff.1 ha).1; omega) x ha]; simp
      rw [hfd, hany]
      simp -dsimp [hiz]
      refine Fin.box (.o 6) rfl ?_
      simp -dsimp
      refine Fin.of ?_
      simp [ints]
theorem leave_c (m : Mbs) (hv : vldM m = 0) (h g : Int) : Contract Try.prog 21 [mbsT m, .d (.int .i64 h), .d (.int .i64 g), .d (.int .i64 0)] []
    (.tup [mbsT (if (m.l.any fun x => !woQ h g x) = true then ⟨m.now, woM h g m.l⟩ else ⟨0, []⟩), .d (.int .i64 (if (m.l.any fun x => !woQ h g x) = true then 0 else 4))]) [] [] := by
  obtain ⟨v1, v2, v3, v4, v5, v6⟩ := vldM_zero hv
  have hfl : ∀ x ∈ m.l, x.f.s.length ≤ 1000000 := fun x hx => by have := ok_len (v4 x hx); omega
  have hV := rvalidM_c m (by omega) hfl
  rw [hv] at hV
  have hW := without_c m (by omega) h g
  have hF := rfindM_c m hv h g
  simp only [mbsT] at hV hW hF
  refine contract_of Try.func21 rfl (fun E0 => ?_)
  refine awp.sound (g := .mk) (ow := []) (kp := (fun k => k == 0 || k == 1 || k == 2 || k == 3 || k == 4 || k == 8 || k == 9 || k == 10 || k == 11 || k == 12 || k == 13 || k == 17 || k == 25 || k == 35 || k == 42)) ?_
  rw [Try.ntmps21]
  simp -dsimp [mbsT]
  refine ACall.of hV [] 0 ?_
  simp -dsimp
  refine ACall.of hF [] 0 ?_
  cases hfd : m.l.find? fun x => !woQ h g x with
  | some x =>
    have hany : (m.l.any fun x => !woQ h g x) = true := List.any_eq_true.2 ⟨x, List.mem_of_find?_eq_some hfd, List.find?_some (p := fun x => !woQ h g x) hfd⟩
    rw [hany]
    simp -dsimp
    refine ACall.of hW [] 0 ?_
    simp -dsimp
    refine Fin.of ?_
    simp [mbsT]
  | none =>
    have hany : (m.l.any fun x => !woQ h g x) = false := List.any_eq_false.2 fun x hx => by simpa using List.find?_eq_none.1 hfd x hx
    rw [hany]
    simp -dsimp
    refine Fin.box (.o 8) rfl ?_
    simp -dsimp
    refine Fin.of ?_
    simp [mbsT, mems]
end Go.Proofs
