/-
  What functions of the program compute, stated as contracts over plain data; the conditions of each stand in its own statement.
-/
import Derived.Test.YtkhgmgelbgondaaD13
set_option linter.unusedSimpArgs false
namespace Go.Proofs
open Go Go.Tr

theorem ascW_ext : ∀ {a b : List Wnt}, AscW a → AscW b → (∀ w, w ∈ a ↔ w ∈ b) → a = b
  | [], [], _, _, _ => rfl
  | [], y :: b, _, _, h => by have := (h y).2 (by simp); simp at this
  | x :: a, [], _, _, h => by have := (h x).1 (by simp); simp at this
  | x :: a, y :: b, ha, hb, h => by
    obtain ⟨ha1, ha2⟩ := List.pairwise_cons.1 ha
    obtain ⟨hb1, hb2⟩ := List.pairwise_cons.1 hb
    have e : x = y := by
      rcases List.mem_cons.1 ((h x).1 (by simp)) with e | e
      · exact e
      · rcases List.mem_cons.1 ((h y).2 (by simp)) with e' | e'
        · exact e'.symm
        · have h1 := hb1 x e
          have h2 := ha1 y e'
          omega
    subst e
    congr 1
    refine ascW_ext ha2 hb2 fun w => ?_
    have hw := h w
    simp only [List.mem_cons] at hw
    constructor
    · intro hm
      rcases hw.1 (.inr hm) with e | e
      · subst e; have := ha1 w hm; omega
      · exact e
    · intro hm
      rcases hw.2 (.inr hm) with e | e
      · subst e; have := hb1 w hm; omega
      · exact e
def opt (l : List Wnt) (g : Int) : Option Flt := (l.find? fun x => decide (x.g = g)).map (·.f)
theorem opt_nil (g : Int) : opt [] g = none := rfl
theorem opt_cons (x : Wnt) (l : List Wnt) (g : Int) : opt (x :: l) g = if x.g = g then some x.f else opt l g := by
  unfold opt
  rw [List.find?_cons]
  by_cases h : x.g = g <;> simp [h]
theorem opt_lt : ∀ {l : List Wnt} {g : Int}, (∀ y ∈ l, g < y.g) → opt l g = none
  | [], _, _ => rfl
  | x :: l, g, h => by
    have h0 := h x (by simp)
    rw [opt_cons, if_neg (by omega), opt_lt fun y hy => h y (by simp [hy])]
theorem opt_mem {l : List Wnt} (h : AscW l) {x : Wnt} (hx : x ∈ l) : opt l x.g = some x.f := by
  induction l with
  | nil => simp at hx
  | cons y l ih =>
    obtain ⟨h1, h2⟩ := List.pairwise_cons.1 h
    rw [opt_cons]
    rcases List.mem_cons.1 hx with rfl | hx
    · simp
    · rw [if_neg (by have := h1 x hx; omega), ih h2 hx]
theorem opt_some {l : List Wnt} {g : Int} {f : Flt} (h : opt l g = some f) : ⟨g, f⟩ ∈ l := by
  unfold opt at h
  cases hf : l.find? fun x => decide (x.g = g) with
  | none => rw [hf] at h; simp at h
  | some x =>
    rw [hf] at h
    simp only [Option.map_some, Option.some.injEq] at h
    have h1 := List.find?_some hf
    have h2 := List.mem_of_find?_eq_some hf
    simp only [decide_eq_true_eq] at h1
    obtain ⟨xg, xf⟩ := x
    simp only at h h1
    rw [← h, ← h1]; exact h2
def tl (g : Int) (o : Option Flt) : List Wnt := match o with | some f => [⟨g, f⟩] | none => []
theorem tl_mem {g : Int} {o : Option Flt} {w : Wnt} : w ∈ tl g o ↔ w.g = g ∧ o = some w.f := by
  obtain ⟨wg, wf⟩ := w
  cases o with
  | none => simp [tl]
  | some f => simp [tl]; exact fun _ => eq_comm
def mrgV (val : Option Flt → Option Flt → Option Flt) (a b : List Wnt) : List Wnt := mrg (fun x => tl x.g (val (some x.f) none)) (fun y => tl y.g (val none (some y.f))) (fun x y => tl y.g (val (some x.f) (some y.f))) a b
theorem mrgV_g (val : Option Flt → Option Flt → Option Flt) : ∀ (n : Nat) (a b : List Wnt), a.length + b.length ≤ n → ∀ w ∈ mrgV val a b, (∃ x ∈ a, x.g = w.g) ∨ ∃ y ∈ b, y.g = w.g
  | 0, a, b, h, w, hw => by
    obtain rfl : a = [] := List.length_eq_zero_iff.1 (by omega)
    obtain rfl : b = [] := List.length_eq_zero_iff.1 (by omega)
    rw [mrgV, mrg] at hw; simp at hw
  | n + 1, a, b, h, w, hw => by
    cases a with
    | nil =>
      cases b with
      | nil => rw [mrgV, mrg] at hw; simp at hw
      | cons y b =>
        rw [mrgV, mrg, List.mem_append] at hw
        simp only [List.length_cons] at h
        rcases hw with hw | hw
        · exact .inr ⟨y, by simp, (tl_mem.1 hw).1.symm⟩
        · rcases mrgV_g val n [] b (by omega) w hw with ⟨z, hz, e⟩ | ⟨z, hz, e⟩
          · simp at hz
          · exact .inr ⟨z, by simp [hz], e⟩
    | cons x a =>
      cases b with
      | nil =>
        rw [mrgV, mrg, List.mem_append] at hw
        simp only [List.length_cons] at h
        rcases hw with hw | hw
        · exact .inl ⟨x, by simp, (tl_mem.1 hw).1.symm⟩
        · rcases mrgV_g val n a [] (by simp at h ⊢; omega) w hw with ⟨z, hz, e⟩ | ⟨z, hz, e⟩
          · exact .inl ⟨z, by simp [hz], e⟩
          · simp at hz
      | cons y b =>
        rw [mrgV, mrg] at hw
        simp only [List.length_cons] at h
        split at hw
        · rcases List.mem_append.1 hw with hw | hw
          · exact .inl ⟨x, by simp, (tl_mem.1 hw).1.symm⟩
          · rcases mrgV_g val n a (y :: b) (by simp; omega) w hw with ⟨z, hz, e⟩ | h
            · exact .inl ⟨z, by simp [hz], e⟩
            · exact .inr h
        · split at hw
          · rcases List.mem_append.1 hw with hw | hw
            · exact .inr ⟨y, by simp, (tl_mem.1 hw).1.symm⟩
            · rcases mrgV_g val n (x :: a) b (by simp; omega) w hw with h | ⟨z, hz, e⟩
              · exact .inl h
              · exact .inr ⟨z, by simp [hz], e⟩
          · rcases List.mem_append.1 hw with hw | hw
            · exact .inr ⟨y, by simp, (tl_mem.1 hw).1.symm⟩
            · rcases mrgV_g val n a b (by omega) w hw with ⟨z, hz, e⟩ | ⟨z, hz, e⟩
              · exact .inl ⟨z, by simp [hz], e⟩
              · exact .inr ⟨z, by simp [hz], e⟩
theorem tl_asc {g : Int} {o : Option Flt} {l : List Wnt} (h1 : AscW l) (h2 : ∀ w ∈ l, g < w.g) : AscW (tl g o ++ l) := by
  cases o with
  | none => exact h1
  | some f => exact List.pairwise_cons.2 ⟨h2, h1⟩
/-- the members of a merged list, and its order -/
theorem mrgV_all (val : Option Flt → Option Flt → Option Flt) (h0 : val none none = none) : ∀ (n : Nat) (a b : List Wnt), a.length + b.length ≤ n → AscW a → AscW b → AscW (mrgV val a b) ∧ ∀ w, w ∈ mrgV val a b ↔ val (opt a w.g) (opt b w.g) = some w.f
  | 0, a, b, h, _, _ => by
    obtain rfl : a = [] := List.length_eq_zero_iff.1 (by omega)
    obtain rfl : b = [] := List.length_eq_zero_iff.1 (by omega)
    rw [mrgV, mrg]
    exact ⟨.nil, fun w => by simp [opt_nil, h0]⟩
  | n + 1, a, b, h, ha, hb => by
    have key : ∀ (g : Int) (o : Option Flt) (a' b' : List Wnt), a'.length + b'.length ≤ n → AscW a' → AscW b' → (∀ x ∈ a', g < x.g) → (∀ y ∈ b', g < y.g) → o = val (opt a g) (opt b g) → (∀ g', g' ≠ g → opt a' g' = opt a g' ∧ opt b' g' = opt b g') →
        AscW (tl g o ++ mrgV val a' b') ∧ ∀ w, w ∈ tl g o ++ mrgV val a' b' ↔ val (opt a w.g) (opt b w.g) = some w.f := fun g o a' b' hn ha' hb' hga hgb ho hop => by
      obtain ⟨i1, i2⟩ := mrgV_all val h0 n a' b' hn ha' hb'
      refine ⟨tl_asc i1 fun w hw => ?_, fun w => ?_⟩
      · rcases mrgV_g val n a' b' hn w hw with ⟨x, hx, e⟩ | ⟨y, hy, e⟩
        · have := hga x hx; omega
        · have := hgb y hy; omega
      · rw [List.mem_append, tl_mem, i2]
        by_cases hg : w.g = g
        · rw [hg, opt_lt hga, opt_lt hgb, h0, ho]
          simp
        · obtain ⟨e1, e2⟩ := hop w.g hg
          rw [e1, e2]
          simp [hg]
    cases a with
    | nil =>
      cases b with
      | nil => rw [mrgV, mrg]; exact ⟨.nil, fun w => by simp [opt_nil, h0]⟩
      | cons y b =>
        obtain ⟨hb1, hb2⟩ := List.pairwise_cons.1 hb
        simp only [List.length_cons, List.length_nil] at h
        rw [mrgV, mrg]
        exact key y.g _ [] b (by simp; omega) .nil hb2 (by simp) hb1 (by rw [opt_nil, opt_cons, if_pos rfl]) fun g' hg => ⟨rfl, by rw [opt_cons, if_neg (fun e => hg e.symm)]⟩
    | cons x a =>
      obtain ⟨ha1, ha2⟩ := List.pairwise_cons.1 ha
      cases b with
      | nil =>
        simp only [List.length_cons, List.length_nil] at h
        rw [mrgV, mrg]
        exact key x.g _ a [] (by simp; omega) ha2 .nil ha1 (by simp) (by rw [opt_nil, opt_cons, if_pos rfl]) fun g' hg => ⟨by rw [opt_cons, if_neg (fun e => hg e.symm)], rfl⟩
      | cons y b =>
        obtain ⟨hb1, hb2⟩ := List.pairwise_cons.1 hb
        simp only [List.length_cons] at h
        rw [mrgV, mrg]
        split
        · rename_i c
          have hlt : ∀ z ∈ y :: b, x.g < z.g := fun z hz => by
            rcases List.mem_cons.1 hz with rfl | hz
            · exact c
            · have := hb1 z hz; omega
          exact key x.g _ a (y :: b) (by simp; omega) ha2 hb ha1 hlt (by rw [opt_lt hlt, opt_cons, if_pos rfl]) fun g' hg => ⟨by rw [opt_cons, if_neg (fun e => hg e.symm)], rfl⟩
        · rename_i c
          split
          · rename_i c2
            have hlt : ∀ z ∈ x :: a, y.g < z.g := fun z hz => by
              rcases List.mem_cons.1 hz with rfl | hz
              · exact c2
              · have := ha1 z hz; omega
            exact key y.g _ (x :: a) b (by simp; omega) ha hb2 hlt hb1 (by rw [opt_lt hlt, opt_cons, if_pos rfl]) fun g' hg => ⟨rfl, by rw [opt_cons, if_neg (fun e => hg e.symm)]⟩
          · rename_i c2
            have hxy : x.g = y.g := by omega
            exact key y.g _ a b (by omega) ha2 hb2 (fun z hz => by have := ha1 z hz; omega) hb1 (by rw [opt_cons, if_pos hxy, opt_cons, if_pos rfl]) fun g' hg => ⟨by rw [opt_cons, if_neg (fun e => hg (by omega))], by rw [opt_cons, if_neg (fun e => hg e.symm)]⟩
/-- what changes at a group -/
def valC : Option Flt → Option Flt → Option Flt
  | some _, none => some nF
  | none, some f => some f
  | some f, some f' => if f = f' then none else some f'
  | none, none => none
def valA : Option Flt → Option Flt → Option Flt
  | some f, none => some f
  | _, some f' => if f'.non = true then none else some f'
  | none, none => none
theorem mrg_chg (a b : List Wnt) : mrg chA chB chC a b = mrgV valC a b := by
  unfold mrgV
  congr 1
  · funext x y; simp only [chC, valC]; split <;> simp [tl]
end Go.Proofs
