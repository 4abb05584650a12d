/-
  Laws of the layer between the model and plain data (states, operations, calls, loops); none has a condition beyond those that stand in its own statement.
-/
import Derived.Test.YtkhneohilohhiaaT22
set_option linter.unusedSimpArgs false
namespace Go.Tr
open Go

section
variable {A : Actv}

/-- a cell of a box, seen in another way -/
theorem InvE.boxCell {t : S} {a : Act} {E : En} {p : Pl} {cs : List TV} {j : Nat} {c c' : TV} (hi : InvE A t a E) (hs : ∀ k, p ≠ .s k) (hp : t p = .box cs) (hj : cs[j]? = some c) (hrel : ∀ u, RelV E c u → RelV E c' u) :
    InvE A (upd t p (.box (cs.set j c'))) a E := by
  refine ⟨⟨fun q hq => ?_, hi.h.frees, hi.h.inj, hi.h.size, hi.h.stsz, fun b o h1 q h2 => ?_⟩, hi.fr, fun k tv hk => ?_, hi.defers, hi.size⟩
  · by_cases e : q = p
    · subst e
      have h := hi.h.item q hq
      rw [hp] at h
      simp only [upd, if_true]
      obtain ⟨h1, b, ty, us, h2, h3, h4, h5⟩ := h
      refine ⟨h1, b, ty, us, h2, h3, by simpa using h4, CellsRel.of_get fun i x hx => ?_⟩
      by_cases ei : i = j
      · subst ei
        have hlt : i < cs.length := (List.getElem?_eq_some_iff.1 hj).1
        rw [List.getElem?_set_self hlt] at hx
        simp only [Option.some.injEq] at hx; subst hx
        obtain ⟨u, g1, g2, g3⟩ := h5.get hj
        exact ⟨u, g1, g2, hrel u g3⟩
      · rw [List.getElem?_set_ne (fun h => ei h.symm)] at hx
        exact h5.get hx
    · simp only [upd, if_neg e]; exact hi.h.item q hq
  · obtain ⟨e, k, es, h3, h4⟩ := hi.h.sep b o h1 q h2
    refine ⟨e, k, es, ?_, h4⟩
    have : q ≠ p := fun e => by subst e; rw [hp] at h3; simp at h3
    simp only [upd, if_neg this]; exact h3
  · have : Pl.s k ≠ p := fun e => hs k e.symm
    simp only [upd, if_neg this] at hk
    exact hi.sl k tv hk

/-- a nil slice in a box becomes an empty row -/
theorem GS.ownB {t : S} {p : Pl} {cs : List TV} {j id : Nat} (e z : Nat) (hs : ∀ k, p ≠ .s k) (hp : t p = .box cs) (hj : cs[j]? = some (.c (.slice none 0 0))) (ho : t (.o id) = .none) :
    GS A t (upd (upd t (.o id) (.row e z [] false)) p (.box (cs.set j (.oref id 0)))) := fun a w ⟨E, hw, hi⟩ => by
  obtain ⟨E', hw', x, hi', hv⟩ := hi.newRow ho e z
  have hne : p ≠ .o id := fun e => by subst e; rw [hp] at ho; simp at ho
  refine ⟨E', hw'.trans hw, hi'.boxCell hs (cs := cs) (by simp only [upd, if_neg hne]; exact hp) hj fun u hu => ?_⟩
  simp only [RelV] at hu ⊢
  exact ⟨by rw [hu]; rfl, z, 0, _, hv, Nat.le_refl _, fun _ => hu⟩

theorem GS.ownB' {l l' : List (Pl × It)} (p : Pl) (j id : Nat) {cs : List TV} (e z : Nat) (hs : isPl p = true) (hp : look l p = .box cs) (hj : cs[j]? = some (.c (.slice none 0 0))) (ho : look l (.o id) = .none)
    (h : Sub (look (put1 p (.box (cs.set j (.oref id 0))) (put1 (.o id) (.row e z [] false) l))) l' ∧ xIds l' = xIds (put1 p (.box (cs.set j (.oref id 0))) (put1 (.o id) (.row e z [] false) l))) : GS A (look l) (look l') := by
  have := GS.ownB (A := A) (id := id) e z (fun k e => by subst e; simp [isPl] at hs) hp hj ho
  rw [upd_look, upd_look] at this
  exact this.trans (GS.forget h.1 h.2)
/-- an own row in a box, seen as plain data -/
theorem GS.seeB {t : S} {p : Pl} {cs : List TV} {j id n e k : Nat} {es : List (List TV)} {sh : Bool} {xs : List (List D)} (hs : ∀ k, p ≠ .s k) (hp : t p = .box cs) (hj : cs[j]? = some (.oref id n)) (ht : t (.o id) = .row e k es sh) (hn : n = es.length) (hx : toDss es = some xs) :
    GS A t (upd (upd t (.o id) (.row e k es true)) p (.box (cs.set j (.d (.sl xs))))) := fun a w ⟨E, hw, hi⟩ => by
  subst hn
  obtain ⟨E', hw', x, hb, hv, hi', hr, _⟩ := hi.freeze ht hx
  have hne : p ≠ .o id := fun e => by subst e; rw [hp] at ht; simp at ht
  refine ⟨E', hw'.trans hw, hi'.boxCell hs (cs := cs) (by simp only [upd, if_neg hne]; exact hp) hj fun u hu => ?_⟩
  simp only [RelV] at hu ⊢
  refine hr u ?_
  simp only [RelV]
  rw [hv] at hu
  exact hu

theorem GS.seeB' {l l' : List (Pl × It)} (p : Pl) (j id : Nat) {n e k : Nat} {cs : List TV} {es : List (List TV)} {sh : Bool} {xs : List (List D)} (hs : isPl p = true) (hp : look l p = .box cs) (hj : cs[j]? = some (.oref id n)) (ht : look l (.o id) = .row e k es sh) (hn : n = es.length) (hx : toDss es = some xs)
    (h : Sub (look (put1 p (.box (cs.set j (.d (.sl xs)))) (put1 (.o id) (.row e k es true) l))) l' ∧ xIds l' = xIds (put1 p (.box (cs.set j (.d (.sl xs)))) (put1 (.o id) (.row e k es true) l))) : GS A (look l) (look l') := by
  have := GS.seeB (A := A) (fun k e => by subst e; simp [isPl] at hs) hp hj ht hn hx
  rw [upd_look, upd_look] at this
  exact this.trans (GS.forget h.1 h.2)
end
end Go.Tr
