/-
  What functions of the program compute, stated as contracts over plain data; the conditions of each stand in its own statement.
-/
import Derived.Test.YtkhgmgelbgondaaD15
set_option linter.unusedSimpArgs false
namespace Go.Proofs
open Go Go.Tr

theorem opt_val {c : List Wnt} (ha : AscW c) {v : Int → Option Flt} (h : ∀ w, w ∈ c ↔ v w.g = some w.f) (g : Int) : opt c g = v g := by
  cases ho : opt c g with
  | some f => exact ((h ⟨g, f⟩).1 (opt_some ho)).symm
  | none =>
    cases hv : v g with
    | none => rfl
    | some f =>
      have := opt_mem ha ((h ⟨g, f⟩).2 hv)
      simp only at this; rw [ho] at this; simp at this
theorem opt_iff {b : List Wnt} (hb : AscW b) (w : Wnt) : w ∈ b ↔ opt b w.g = some w.f := ⟨opt_mem hb, fun h => opt_some h⟩
def apA (x : Wnt) : List Wnt := [x]
def apB (y : Wnt) : List Wnt := if y.f.non = true then [] else [y]
def apC (_ y : Wnt) : List Wnt := if y.f.non = true then [] else [y]
def appR (a b : List Wnt) : List Wnt × Int := limW (mrg apA apB apC a b) (if vldW a false ≠ 0 then vldW a false else vldW b true)
theorem mrg_app (a b : List Wnt) : mrg apA apB apC a b = mrgV valA a b := by
  unfold mrgV
  congr 1
  · funext y; simp only [apB, valA]; split <;> simp [tl]
  · funext x y; simp only [apC, valA]; split <;> simp [tl]
theorem mrgV_len (val : Option Flt → Option Flt → Option Flt) : ∀ (n : Nat) (a b : List Wnt), a.length + b.length ≤ n → (mrgV val a b).length ≤ a.length + b.length
  | 0, a, b, h => by
    obtain rfl : a = [] := List.length_eq_zero_iff.1 (by omega)
    obtain rfl : b = [] := List.length_eq_zero_iff.1 (by omega)
    rw [mrgV, mrg]; simp
  | n + 1, a, b, h => by
    have tll : ∀ g o, (tl g o).length ≤ 1 := fun g o => by cases o <;> simp [tl]
    cases a with
    | nil =>
      cases b with
      | nil => rw [mrgV, mrg]; simp
      | cons y b =>
        have ih := mrgV_len val n [] b (by simp at h ⊢; omega)
        have h1 := tll y.g (val none (some y.f))
        unfold mrgV at ih ⊢
        rw [mrg]
        simp only [List.length_append, List.length_cons, List.length_nil] at ih ⊢
        omega
    | cons x a =>
      cases b with
      | nil =>
        have ih := mrgV_len val n a [] (by simp at h ⊢; omega)
        have h1 := tll x.g (val (some x.f) none)
        unfold mrgV at ih ⊢
        rw [mrg]
        simp only [List.length_append, List.length_cons, List.length_nil] at ih ⊢
        omega
      | cons y b =>
        simp only [List.length_cons] at h
        have i1 := mrgV_len val n a (y :: b) (by simp; omega)
        have i2 := mrgV_len val n (x :: a) b (by simp; omega)
        have i3 := mrgV_len val n a b (by omega)
        have h1 := tll x.g (val (some x.f) none)
        have h2 := tll y.g (val none (some y.f))
        have h3 := tll y.g (val (some x.f) (some y.f))
        unfold mrgV at i1 i2 i3 ⊢
        rw [mrg]
        simp only [List.length_append, List.length_cons] at i1 i2 i3 ⊢
        split
        · simp only [List.length_append]; omega
        · split <;> (simp only [List.length_append]; omega)
theorem chg_all {a b : List Wnt} (ha : AscW a) (hb : AscW b) : AscW (mrgV valC a b) ∧ ∀ w, w ∈ mrgV valC a b ↔ valC (opt a w.g) (opt b w.g) = some w.f := mrgV_all valC rfl _ a b (Nat.le_refl _) ha hb
theorem app_all {a b : List Wnt} (ha : AscW a) (hb : AscW b) : AscW (mrgV valA a b) ∧ ∀ w, w ∈ mrgV valA a b ↔ valA (opt a w.g) (opt b w.g) = some w.f := mrgV_all valA rfl _ a b (Nat.le_refl _) ha hb
theorem nF_non : nF.non = true := rfl
theorem app_chg {a b : List Wnt} (ha : AscW a) (hb : AscW b) (hn : ∀ w ∈ b, w.f.non = false) : mrgV valA a (mrgV valC a b) = b := by
  obtain ⟨c1, c2⟩ := chg_all ha hb
  obtain ⟨d1, d2⟩ := app_all ha c1
  refine ascW_ext d1 hb fun w => ?_
  rw [d2, opt_val c1 (v := fun g => valC (opt a g) (opt b g)) c2, opt_iff hb]
  cases hob : opt b w.g with
  | none =>
    cases opt a w.g with
    | none => simp [valC, valA]
    | some f => simp [valC, valA, nF_non]
  | some f' =>
    have := hn _ (opt_some hob)
    simp only at this
    cases opt a w.g with
    | none => simp [valC, valA, this]
    | some f =>
      simp only [valC]
      split
      · rename_i e; subst e; simp [valA]
      · simp [valA, this]
theorem chg_self {b : List Wnt} (hb : AscW b) : mrgV valC b b = [] := by
  obtain ⟨c1, c2⟩ := chg_all hb hb
  apply List.eq_nil_iff_forall_not_mem.2
  intro w hw
  have := (c2 w).1 hw
  cases ho : opt b w.g with
  | none => rw [ho] at this; simp [valC] at this
  | some f => rw [ho] at this; simp [valC] at this
theorem less_asc {c : List Wnt} (h : AscW c) (k : Nat) : AscW (c.take k ++ c.drop (k + 1)) := by
  have : (c.take k ++ c.drop (k + 1)).Sublist c := by
    conv => rhs; rw [← List.take_append_drop k c]
    refine List.Sublist.append (List.Sublist.refl _) ?_
    have e : c.drop (k + 1) = (c.drop k).drop 1 := by rw [List.drop_drop]
    rw [e]
    exact List.drop_sublist _ _
  exact List.Pairwise.sublist this h
theorem less_mem {c : List Wnt} {k : Nat} {w : Wnt} (h : w ∈ c.take k ++ c.drop (k + 1)) : w ∈ c := by
  rcases List.mem_append.1 h with h | h
  · exact List.mem_of_mem_take h
  · exact List.mem_of_mem_drop h
theorem less_opt {c : List Wnt} (h : AscW c) {k : Nat} {w : Wnt} (hw : c[k]? = some w) : opt (c.take k ++ c.drop (k + 1)) w.g = none := by
  have hk : k < c.length := (List.getElem?_eq_some_iff.1 hw).1
  have e : c = c.take k ++ w :: c.drop (k + 1) := by
    obtain ⟨h1, h2⟩ := List.getElem?_eq_some_iff.1 hw
    conv => lhs; rw [← List.take_append_drop k c]
    rw [List.drop_eq_getElem_cons hk, h2]
  cases ho : opt (c.take k ++ c.drop (k + 1)) w.g with
  | none => rfl
  | some f =>
    have hm := opt_some ho
    unfold AscW at h
    rw [e] at h
    obtain ⟨_, p2, p3⟩ := List.pairwise_append.1 h
    rcases List.mem_append.1 hm with hm | hm
    · have := p3 _ hm w (by simp)
      simp only at this; omega
    · have := (List.pairwise_cons.1 p2).1 _ hm
      simp only at this; omega
theorem app_less {a b : List Wnt} (ha : AscW a) (hb : AscW b) {k : Nat} (hk : k < (mrgV valC a b).length) : mrgV valA a ((mrgV valC a b).take k ++ (mrgV valC a b).drop (k + 1)) ≠ b := by
  obtain ⟨c1, c2⟩ := chg_all ha hb
  generalize mrgV valC a b = c at hk c1 c2 ⊢
  have hw : c[k]? = some c[k] := List.getElem?_eq_getElem hk
  generalize c[k] = w at hw
  have l1 := less_asc c1 k
  have l2 := less_opt c1 hw
  obtain ⟨d1, d2⟩ := app_all ha l1
  intro e
  have h1 := opt_val d1 (v := fun g => valA (opt a g) (opt (c.take k ++ c.drop (k + 1)) g)) d2 w.g
  rw [l2, e] at h1
  have h2 := (c2 w).1 (List.mem_of_getElem? hw)
  rw [h1] at h2
  cases ho : opt a w.g with
  | none => rw [ho] at h2; simp [valC, valA] at h2
  | some f => rw [ho] at h2; simp [valC, valA] at h2
theorem chg_vld {a b : List Wnt} (ha : vldW a false = 0) (hb : vldW b false = 0) (hl : a.length + b.length ≤ 32) : vldW (mrgV valC a b) true = 0 := by
  obtain ⟨a1, a2, a3, a4, a5⟩ := vldW_zero ha
  obtain ⟨b1, b2, b3, b4, b5⟩ := vldW_zero hb
  obtain ⟨c1, c2⟩ := chg_all a5 b5
  have hlen := mrgV_len valC _ a b (Nat.le_refl _)
  refine vldW_ok (by omega) (fun w hw => ?_) (fun w hw => ?_) (fun h => by simp at h) c1
  · rcases mrgV_g valC _ a b (Nat.le_refl _) w hw with ⟨x, hx, e⟩ | ⟨x, hx, e⟩
    · rw [← e]; exact a2 x hx
    · rw [← e]; exact b2 x hx
  · have h := (c2 w).1 hw
    cases hob : opt b w.g with
    | none =>
      rw [hob] at h
      cases hoa : opt a w.g with
      | none => rw [hoa] at h; simp [valC] at h
      | some f => rw [hoa] at h; simp only [valC, Option.some.injEq] at h; rw [← h]; exact nF_ok
    | some f' =>
      have hf := b3 _ (opt_some hob)
      simp only at hf
      rw [hob] at h
      cases hoa : opt a w.g with
      | none => rw [hoa] at h; simp only [valC, Option.some.injEq] at h; rw [← h]; exact hf
      | some f =>
        rw [hoa] at h; simp only [valC] at h
        split at h
        · simp at h
        · simp only [Option.some.injEq] at h; rw [← h]; exact hf
theorem less_vld {c : List Wnt} (hc : vldW c true = 0) (k : Nat) : vldW (c.take k ++ c.drop (k + 1)) true = 0 := by
  obtain ⟨a1, a2, a3, a4, a5⟩ := vldW_zero hc
  refine vldW_ok (by simp; omega) (fun w hw => a2 w (less_mem hw)) (fun w hw => a3 w (less_mem hw)) (fun h => by simp at h) (less_asc a5 k)
/-! ### generated wants -/
def gWantL : Nat → Tp → Int → List Wnt → List Wnt × Tp
  | 0, T, _, l => (l, T)
  | n + 1, T, g, l => gWantL n (gNext (gFlt T).2 2).2 (g + 1) (if (gNext (gFlt T).2 2).1 = 0 ∧ (gFlt T).1.non = false then l ++ [⟨g, (gFlt T).1⟩] else l)
def gWants (T : Tp) : List Wnt × Tp := gWantL 6 T 1 []
theorem gWantL_ok : ∀ (n : Nat) (T : Tp) (g : Int) (l : List Wnt), TapeOK (gWantL n T g l).2 = TapeOK T
  | 0, _, _, _ => rfl
  | n + 1, T, g, l => by simp only [gWantL]; rw [gWantL_ok n, gNext_ok, gFlt_ok]
@[simp] theorem gWants_ok (T : Tp) : TapeOK (gWants T).2 = TapeOK T := gWantL_ok 6 T 1 []
theorem gWantL_all : ∀ (n : Nat) (T : Tp) (g : Int) (l : List Wnt), 1 ≤ g → (g + n : Int) ≤ 100 → AscW l → (∀ x ∈ l, (1 ≤ x.g ∧ x.g < g) ∧ x.f.Ok ∧ x.f.non = false) →
    AscW (gWantL n T g l).1 ∧ (∀ x ∈ (gWantL n T g l).1, (1 ≤ x.g ∧ x.g ≤ 99) ∧ x.f.Ok ∧ x.f.non = false) ∧ (gWantL n T g l).1.length ≤ l.length + n
  | 0, _, g, l, h1, h2, h3, h4 => ⟨h3, fun x hx => by have := h4 x hx; exact ⟨by simp at h2; omega, this.2⟩, by simp [gWantL]⟩
  | n + 1, T, g, l, h1, h2, h3, h4 => by
    simp only [gWantL]
    split
    · rename_i c
      obtain ⟨r1, r2, r3⟩ := gWantL_all n (gNext (gFlt T).2 2).2 (g + 1) (l ++ [⟨g, (gFlt T).1⟩]) (by omega) (by omega)
        (List.pairwise_append.2 ⟨h3, by simp, fun x hx y hy => by simp only [List.mem_cons, List.not_mem_nil, or_false] at hy; subst hy; exact (h4 x hx).1.2⟩)
        fun x hx => by
          rcases List.mem_append.1 hx with hx | hx
          · have := h4 x hx; exact ⟨by omega, this.2⟩
          · simp only [List.mem_cons, List.not_mem_nil, or_false] at hx; subst hx
            exact ⟨by simp only; omega, gFlt_flt T, c.2⟩
      exact ⟨r1, r2, by simp at r3; omega⟩
    · obtain ⟨r1, r2, r3⟩ := gWantL_all n (gNext (gFlt T).2 2).2 (g + 1) l (by omega) (by omega) h3 fun x hx => by have := h4 x hx; exact ⟨by omega, this.2⟩
      exact ⟨r1, r2, by omega⟩
theorem gWants_vld (T : Tp) : vldW (gWants T).1 false = 0 ∧ (gWants T).1.length ≤ 6 := by
  obtain ⟨r1, r2, r3⟩ := gWantL_all 6 T 1 [] (by omega) (by omega) .nil (by simp)
  simp only [List.length_nil] at r3
  exact ⟨vldW_ok (by simp only [gWants]; omega) (fun x hx => (r2 x hx).1) (fun x hx => (r2 x hx).2.1) (fun _ x hx => (r2 x hx).2.2) r1, by simp only [gWants]; omega⟩
end Go.Proofs
