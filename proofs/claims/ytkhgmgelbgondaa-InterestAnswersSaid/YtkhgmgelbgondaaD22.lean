/-
  What functions of the program compute, stated as contracts over plain data; the conditions of each stand in its own statement.
-/
import Derived.Test.YtkhgmgelbgondaaD20
import Derived.Test.YtkhgmgelbgondaaD21
set_option linter.unusedSimpArgs false
set_option maxRecDepth 100000
set_option maxHeartbeats 8000000
namespace Go.Proofs
open Go Go.Tr

theorem rvalidate24_c (l : List Wnt) (hl : l.length ≤ 1000000) (hf : ∀ x ∈ l, x.f.s.length ≤ 9223372036854775807) : Contract Try.prog 30 [.d (wntD l)] [] (.d (.int .i64 (vldW l false))) [] [] := by
  refine contract_of Try.func30 rfl (fun E0 => ?_)
  refine awp.sound (g := .mk) (ow := []) (kp := (fun k => k == 0 || k == 2)) ?_
  rw [Try.ntmps30]
  simp -dsimp
  refine ACall.of (rcheck24_cL l false hl hf) [] 0 ?_
  simp -dsimp
  refine Fin.of ?_
  simp
theorem any_fnd {l : List Wnt} (h : AscW l) (g s : Int) : (l.any fun x => decide (x.g = g) && wntV x.f s) = wntV (fnd l g) s := by
  unfold fnd
  cases ho : opt l g with
  | none =>
    have hz : wntV nF s = false := by simp [wntV, nF_wnt]
    rw [Option.getD_none, hz, List.any_eq_false]
    intro x hx
    have : x.g ≠ g := fun e => by
      have := opt_mem h hx
      rw [e, ho] at this; simp at this
    simp [this]
  | some f =>
    rw [Option.getD_some, Bool.eq_iff_iff, List.any_eq_true]
    constructor
    · rintro ⟨x, hx, hq⟩
      simp only [Bool.and_eq_true, decide_eq_true_eq] at hq
      have := opt_mem h hx
      rw [hq.1, ho] at this
      simp only [Option.some.injEq] at this
      rw [this]; exact hq.2
    · intro hq
      exact ⟨_, opt_some ho, by simp [hq]⟩
theorem fnd_len {l : List Wnt} {n : Nat} (hf : ∀ x ∈ l, x.f.s.length ≤ n) (g : Int) : (fnd l g).s.length ≤ n := by
  unfold fnd
  cases ho : opt l g with
  | none => simp [nF]
  | some f => exact hf _ (opt_some ho)
theorem rwants24_c (l : List Wnt) (hl : l.length ≤ 1000000) (hf : ∀ x ∈ l, x.f.s.length ≤ 9223372036854775807) (f : Flw) : Contract Try.prog 31 [.d (wntD l), flwT f] [] (.d (.bool (wantsV l f))) [] [] := by
  have hv := rvalidate24_c l hl hf
  have hF := rfind24_c l hl f.g
  simp only [fltT] at hF
  refine contract_of Try.func31 rfl (fun E0 => ?_)
  refine awp.sound (g := .mk) (ow := []) (kp := (fun k => k == 0 || k == 1 || k == 3 || k == 4)) ?_
  rw [Try.ntmps31]
  simp -dsimp [flwT]
  refine ACall.of hv [] 0 ?_
  by_cases h : vldW l false = 0
  · simp -dsimp [h]
    have hw := rwants_c (fnd l f.g) (fnd_len (fun x hx => by have := ok_len ((vldW_zero h).2.2.1 x hx); omega) f.g) f.s
    simp only [fltT] at hw
    refine ACall.of hF [] 0 ?_
    simp -dsimp
    refine ACall.of hw [] 0 ?_
    simp -dsimp
    and_intros
    all_goals try first | rfl | omega | exact ⟨by kernel_rfl⟩
    refine Fin.of ?_
    simp [wantsV, h, any_fnd (vldW_zero h).2.2.2.2]
  · simp -dsimp [h]
    and_intros
    all_goals try first | rfl | omega | exact ⟨by kernel_rfl⟩
    refine Fin.of ?_
    simp [wantsV, h]
theorem opt_at : ∀ {l : List Wnt} {g : Int} {i : Nat} {x : Wnt}, l[i]? = some x → x.g = g → (opt l g).isSome = true
  | y :: l, g, 0, x, hx, hq => by
    simp at hx; subst hx; rw [opt_cons, if_pos hq]; rfl
  | y :: l, g, i + 1, x, hx, hq => by
    rw [opt_cons]
    split
    · rfl
    · exact opt_at (i := i) (by simpa using hx) hq
  | [], _, _, _, hx, _ => by simp at hx
theorem opt_no : ∀ {l : List Wnt} {g : Int}, (∀ y ∈ l, ¬ y.g = g) → (opt l g).isSome = false
  | [], _, _ => rfl
  | y :: l, g, h => by rw [opt_cons, if_neg (h y (by simp)), opt_no fun z hz => h z (by simp [hz])]
theorem rhas_c (l : List Wnt) (hl : l.length ≤ 1000000) (g : Int) : Contract Try.prog 65 [.d (wntD l), .d (.int .i64 g)] [] (.d (.bool (opt l g).isSome)) [] [] := by
  refine contract_of Try.func65 rfl (fun E0 => ?_)
  refine awp.sound (g := .mk) (ow := []) (kp := (fun k => k == 0 || k == 1 || k == 4 || k == 6 || k == 7 || k == 8 || k == 9 || k == 10 || k == 16)) ?_
  rw [Try.ntmps65]
  simp -dsimp [wntD]
  refine ALoop.of [] (fun k => k == 0 || k == 1 || k == 4 || k == 6 || k == 7 || k == 8 || k == 9 || k == 10 || k == 16) (ι := { i : Nat // i ≤ l.length ∧ ∀ a, a < i → ∀ y, l[a]? = some y → ¬ y.g = g })
    (fun z => [(Pl.s 1, It.v (TV.d (D.int IntKind.i64 g))),
      (Pl.s 4, It.v (TV.d (D.bool false))), (Pl.s 7, It.v (TV.d (D.sl (List.map wntC l)))), (Pl.s 8, It.v (TV.d (D.int IntKind.i64 l.length))), (Pl.s 9, It.v (TV.d (D.int IntKind.i64 z.1)))])
    (fun z => l.length - z.1) ⟨0, by omega, fun a h => by omega⟩ ?_ ?_
  · exact GS.to (by simp)
  · rintro ⟨i, i1, i2⟩
    by_cases hi : i < l.length
    · have hiz : (i : Int) < l.length := by omega
      have hg : l[i]? = some l[i] := List.getElem?_eq_getElem hi
      have hm : l[i] ∈ l := List.getElem_mem hi
      generalize l[i] = y at hg hm
      have nx : ¬ y.g = g → ∀ a, a < i + 1 → ∀ y, l[a]? = some y → ¬ y.g = g := fun hb a ha z hz => by
        by_cases e : a = i
        · subst e; rw [hg] at hz; simp only [Option.some.injEq] at hz; subst hz; exact hb
        · exact i2 a (by omega) z hz
      by_cases b1 : y.g = g
      · rw [opt_at hg b1]
        simp -dsimp [hg, wntC, hiz, eq_true b1]
        and_intros
        all_goals try first | rfl | omega | exact ⟨by kernel_rfl⟩
        refine Fin.of ?_
        simp
      · simp -dsimp [hg, wntC, hiz, b1, wrap_i64 (n := (i : Int) + 1) (by omega) (by omega)]
        and_intros
        all_goals try first | rfl | omega | exact ⟨by kernel_rfl⟩
        exact ⟨⟨i + 1, by omega, nx b1⟩, GS.to (by simp), by simp; omega⟩
    · have hiz : ¬ (i : Int) < l.length := by omega
      have all : ∀ y ∈ l, ¬ y.g = g := fun y hy => by
        obtain ⟨a, ha⟩ := List.getElem?_of_mem hy
        exact i2 a (by have := (List.getElem?_eq_some_iff.1 ha).1; omega) y ha
      rw [opt_no all]
      simp -dsimp [hiz]
      refine Fin.of ?_
      simp
theorem same1_c (x y : Wnt) (hx : x.f.s.length ≤ 9223372036854775807) : Contract Try.prog 67 [wnT x, wnT y] [] (.d (.bool (decide (x = y)))) [] [] := by
  have hs := same_cL x.f y.f hx
  rw [samF] at hs
  simp only [fltT] at hs
  have e : decide (x = y) = (decide (x.g = y.g) && decide (x.f = y.f)) := by
    obtain ⟨a, b⟩ := x
    obtain ⟨c, d⟩ := y
    by_cases h1 : a = c <;> by_cases h2 : b = d <;> simp [h1, h2]
  rw [e]
  refine contract_of Try.func67 rfl (fun E0 => ?_)
  refine awp.sound (g := .mk) (ow := []) (kp := (fun k => k == 0 || k == 1 || k == 2 || k == 3 || k == 4)) ?_
  rw [Try.ntmps67]
  by_cases h : x.g = y.g
  · simp -dsimp [wnT, eq_true h]
    refine ACall.of hs [] 0 ?_
    simp -dsimp
    and_intros
    all_goals try first | rfl | omega | exact ⟨by kernel_rfl⟩
    refine Fin.of ?_
    simp [h]
  · simp -dsimp [wnT, h]
    and_intros
    all_goals try first | rfl | omega | exact ⟨by kernel_rfl⟩
    refine Fin.of ?_
    simp [h]
theorem ext_at {a b : List Wnt} (hl : a.length = b.length) (h : ∀ i, i < a.length → a[i]? = b[i]?) : a = b := by
  refine List.ext_getElem? fun i => ?_
  by_cases hi : i < a.length
  · exact h i hi
  · rw [List.getElem?_eq_none (by omega), List.getElem?_eq_none (by omega)]
theorem equalF_c (a b : List Wnt) (ha : a.length ≤ 1000000) (f : FuncId) (hf : ∀ x, x ∈ a → ∀ y, Contract Try.prog f [wnT x, wnT y] [] (.d (.bool (decide (x = y)))) [] []) (hok : fnOK Try.prog f = true) :
    Contract Try.prog 66 [.d (wntD a), .d (wntD b), .clo f []] [] (.d (.bool (decide (a = b)))) [] [] := by
  refine contract_of Try.func66 rfl (fun E0 => ?_)
  refine awp.sound (g := .mk) (ow := []) (kp := (fun k => k == 0 || k == 1 || k == 2 || k == 6 || k == 7 || k == 8 || k == 9 || k == 14 || k == 15 || k == 16 || k == 17 || k == 18 || k == 30)) ?_
  rw [Try.ntmps66]
  by_cases h : a.length = b.length
  · have hz : (a.length : Int) = b.length := by omega
    simp -dsimp [wntD, hz]
    refine ALoop.of [] (fun k => k == 0 || k == 1 || k == 2 || k == 6 || k == 7 || k == 8 || k == 9 || k == 14 || k == 15 || k == 16 || k == 17 || k == 18 || k == 30) (ι := { i : Nat // i ≤ b.length ∧ ∀ j, j < i → a[j]? = b[j]? })
      (fun z => [(Pl.s 1, It.v (TV.d (D.sl (List.map wntC b)))), (Pl.s 2, It.v (TV.clo f [])), (Pl.s 6, It.v (TV.d (D.bool false))),
        (Pl.s 15, It.v (TV.d (D.sl (List.map wntC a)))), (Pl.s 16, It.v (TV.d (D.int IntKind.i64 b.length))), (Pl.s 17, It.v (TV.d (D.int IntKind.i64 z.1)))])
      (fun z => b.length - z.1) ⟨0, by omega, fun a h => by omega⟩ ?_ ?_
    · exact GS.to (by simp)
    · rintro ⟨i, i1, i2⟩
      by_cases hi : i < b.length
      · have hiz : (i : Int) < b.length := by omega
        have hia : i < a.length := by omega
        have hg : b[i]? = some b[i] := List.getElem?_eq_getElem hi
        have hg2 : a[i]? = some a[i] := List.getElem?_eq_getElem hia
        have hm : a[i] ∈ a := List.getElem_mem hia
        generalize b[i] = y at hg
        generalize a[i] = x at hg2 hm
        have hc := hf x hm y
        simp only [wnT] at hc
        simp -dsimp [hg, hg2, wntC, hiz]
        and_intros
        all_goals try first | rfl | omega | exact ⟨by kernel_rfl⟩
        refine ACall.of hc [] 0 ?_
        by_cases e : x = y
        · subst e
          simp -dsimp [hok, wrap_i64 (n := (i : Int) + 1) (by omega) (by omega)]
          and_intros
          all_goals try first | rfl | omega | exact ⟨by kernel_rfl⟩
          exact ⟨⟨i + 1, by omega, fun j hj => by
            by_cases e : j = i
            · subst e; rw [hg, hg2]
            · exact i2 j (by omega)⟩, GS.to (by simp), by simp; omega⟩
        · have hne : a ≠ b := fun h => by rw [h, hg] at hg2; exact e (by simpa using hg2.symm)
          rw [decide_eq_false e]
          simp -dsimp [hok]
          and_intros
          all_goals try first | rfl | omega | exact ⟨by kernel_rfl⟩
          refine Fin.of ?_
          simp [hne]
      · have hiz : ¬ (i : Int) < b.length := by omega
        have e : a = b := ext_at h fun j hj => i2 j (by omega)
        simp -dsimp [hiz]
        refine Fin.of ?_
        simp [e]
  · have hz : ¬ (a.length : Int) = b.length := by omega
    simp -dsimp [wntD, hz]
    refine Fin.of ?_
    have : a ≠ b := fun e => h (by rw [e])
    simp [this]
theorem isame_c (a b : List Wnt) (ha : a.length ≤ 1000000) (hf : ∀ x ∈ a, x.f.s.length ≤ 9223372036854775807) : Contract Try.prog 34 [.d (wntD a), .d (wntD b)] [] (.d (.bool (decide (a = b)))) [] [] := by
  have h := equalF_c a b ha 67 (fun x hx y => same1_c x y (hf x hx)) (by simp)
  refine contract_of Try.func34 rfl (fun E0 => ?_)
  refine awp.sound (g := .mk) (ow := []) (kp := (fun k => k == 0 || k == 1 || k == 4)) ?_
  rw [Try.ntmps34]
  simp -dsimp
  refine ACall.of h [] 0 ?_
  simp -dsimp
  refine Fin.of ?_
  simp
end Go.Proofs
