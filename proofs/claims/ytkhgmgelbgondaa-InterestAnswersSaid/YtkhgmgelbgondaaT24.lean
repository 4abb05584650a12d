/-
  Laws of the layer between the model and plain data (states, operations, calls, loops); none has a condition beyond those that stand in its own statement.
-/
import Derived.Test.YtkhgmgelbgondaaTE
set_option linter.unusedSimpArgs false
namespace Go.Tr
open Go

/-! ### a law, from without -/
/-- the world as a caller sees it who owns nothing -/
def inE (w : World) : En := { w := w, St := fun b _ => b < w.heap.size, blk := fun _ => none, val := fun _ => none }

/-- the package-level variables hold what is said of them -/
def GlobW (w : World) : Prop := ∀ y ∈ globs, RepCells (inE w) y.1 0 y.2

theorem inE_inv (w : World) (hg : GlobW w) : HInv (inE w) (xlook []) := by
  refine ⟨fun p hp => ?_, fun _ => rfl, fun p q b h => ?_, fun p b h => ?_, fun b o h => h, fun b o h p g => ?_, hg⟩
  · have : xlook [] p = .none := by cases p <;> simp [xlook]
    rw [this]
    exact fun id _ => ⟨rfl, rfl⟩
  · cases p <;> simp [En.own, inE] at h
  · cases p <;> simp [En.own, inE] at h
  · cases p <;> simp [En.own, inE] at g

theorem Contract.law {P : Program} {f : FuncId} {args : List TV} {r : TV} {ro : List (Nat × It)} (c : Contract P f args [] r [] ro) {w : World} (hg : GlobW w) {us : List Value} (h : RelVs (inE w) args us) :
    Calls P f us.toArray w fun e w' => ∃ u E', e = .returned u ∧ RelV E' r u ∧ RowKit.Below w.heap.size w w' := by
  refine (c (inE w) us (inE_inv w hg) h).mono fun e w' ⟨u, E', he, hw, hp⟩ => ⟨u, E', he, hp.rel, ?_⟩
  subst hw
  exact ⟨hp.fr.os, hp.fr.tape, hp.fr.output, hp.fr.size, fun k hk => hp.fr.old k hk (fun i => by simp [inE]) (fun i => by simp [En.own, inE])⟩

theorem rows_ints {E : En} {k : IntKind} {b : Nat} : ∀ {l : List Int} {o : Nat}, (∀ i, i < l.length → E.St b (o + i) ∧ E.w.cell? ⟨b, o + i, none⟩ = some (.int k (l.getD i 0))) → RepRows E b 1 o (l.map fun n => [.int k n])
  | [], _, _ => by simp only [List.map_nil, RepRows]
  | n :: l, o, h => by
    simp only [List.map_cons, RepRows, RepCells, List.length_singleton, and_true, true_and]
    have h0 := h 0 (by simp)
    refine ⟨⟨h0.1, _, h0.2, by simp [Rep]⟩, rows_ints fun i hi => ?_⟩
    have := h (i + 1) (by simp; omega)
    rw [show o + (i + 1) = o + 1 + i by omega] at this
    simpa using this

/-- integers that came in, as plain data -/
theorem rep_ints {w : World} {k : IntKind} {a : Option Addr} {len cap : Nat} {z : List Int}
    (h : (a = none ∧ len = 0 ∧ cap = 0 ∧ z = []) ∨ ∃ x, a = some x ∧ len ≤ cap ∧ cap ≤ maxLen ∧ z.length = cap ∧ (∀ i, i < z.length → w.cell? (x.add i) = some (.int k (z.getD i 0))) ∧ ∀ n ∈ z, (Lit.int k n).wf = true) :
    Rep (inE w) (.sl ((z.take len).map fun n => [.int k n])) (.slice a len cap) := by
  simp only [Rep]
  rcases h with ⟨rfl, rfl, rfl, rfl⟩ | ⟨x, rfl, h1, _, h3, h4, _⟩
  · exact .inl ⟨by simp, _, _, rfl⟩
  · by_cases h0 : len = 0
    · subst h0
      exact .inl ⟨by simp, _, _, rfl⟩
    · have hz : 0 < z.length := by omega
      have hc := h4 0 hz
      have hx : x = ⟨x.block, x.off, none⟩ := by
        obtain ⟨b, o, s⟩ := x
        cases s with
        | none => rfl
        | some s =>
          simp only [Addr.add, if_true, World.cell?] at hc
          split at hc <;> simp at hc
      have hb : x.block < w.heap.size := by
        rw [hx] at hc
        simp only [Addr.add, if_true, World.cell?] at hc
        split at hc
        · rename_i hh
          exact (Array.getElem?_eq_some_iff.1 hh).1
        · simp at hc
      refine .inr ⟨x.block, x.off, cap, 1, ?_, ?_, rows_ints fun i hi => ⟨hb, ?_⟩⟩
      · rw [List.length_map, List.length_take, Nat.min_eq_left (by omega), ← hx]
      · simp; omega
      · simp at hi
        have := h4 i (by omega)
        rw [hx] at this
        rw [show (inE w).w = w from rfl]
        have hz2 : (z.take len).getD i 0 = z.getD i 0 := by
          simp [List.getD, List.getElem?_take, show i < len by omega]
        rw [hz2]
        by_cases hi0 : i = 0
        · subst hi0; simpa [Addr.add] using this
        · simpa [Addr.add, hi0] using this

section
variable {A : Actv}
theorem CellsRel.vs {E : En} {us : List Value} : ∀ {ts : List TV} {o : Nat}, CellsRel E us o ts → RelVs E ts ((us.drop o).take ts.length) ∧ (∀ i, o ≤ i → i < o + ts.length → ∃ u, us[i]? = some u ∧ u.oneCell' = true)
  | [], o, _ => ⟨by simp [RelVs], fun i h1 h2 => by simp at h2; omega⟩
  | t :: ts, o, ⟨⟨u, h1, h2, h3⟩, r⟩ => by
    obtain ⟨g1, g2⟩ := CellsRel.vs r
    have hlt : o < us.length := (List.getElem?_eq_some_iff.1 h1).1
    have hu : us[o] = u := by rw [List.getElem?_eq_getElem hlt] at h1; simpa using h1
    refine ⟨?_, fun i i1 i2 => ?_⟩
    · rw [List.drop_eq_getElem_cons hlt, List.length_cons, List.take_succ_cons, hu]
      simp only [RelVs]
      exact ⟨u, _, rfl, h3, g1⟩
    · by_cases e : i = o
      · subst e; exact ⟨u, h1, h2⟩
      · exact g2 i (by omega) (by simp at i2; omega)

theorem RelVs.len {E : En} : ∀ {ts : List TV} {us : List Value}, RelVs E ts us → us.length = ts.length
  | [], us, h => by simp only [RelVs] at h; subst h; rfl
  | t :: ts, us, h => by
    simp only [RelVs] at h
    obtain ⟨u, us', rfl, _, g⟩ := h
    simp [RelVs.len g]

theorem RelVs.cellsB {E : En} {us : List Value} : ∀ {ts : List TV} {o : Nat}, o + ts.length ≤ us.length → RelVs E ts ((us.drop o).take ts.length) → (∀ i, o ≤ i → i < o + ts.length → ∃ u, us[i]? = some u ∧ u.oneCell' = true) → CellsRel E us o ts
  | [], _, _, _, _ => trivial
  | t :: ts, o, hl, h, h1 => by
    have hlt : o < us.length := by simp at hl; omega
    rw [List.drop_eq_getElem_cons hlt, List.length_cons, List.take_succ_cons] at h
    simp only [RelVs] at h
    obtain ⟨u, us', he, g1, g2⟩ := h
    simp only [List.cons.injEq] at he
    obtain ⟨rfl, rfl⟩ := he
    refine ⟨⟨us[o], List.getElem?_eq_getElem hlt, ?_, g1⟩, RelVs.cellsB (by simp at hl; omega) g2 fun i i1 i2 => h1 i (by omega) (by simp; omega)⟩
    obtain ⟨u, e1, e2⟩ := h1 o (by omega) (by simp)
    rw [List.getElem?_eq_getElem hlt] at e1
    simp only [Option.some.injEq] at e1
    rw [e1]; exact e2

/-- the cells of a box, seen in another way -/
theorem InvE.boxAll {t : S} {a : Act} {E : En} {p : Pl} {cs cs' : List TV} (hi : InvE A t a E) (hs : ∀ k, p ≠ .s k) (hp : t p = .box cs)
    (hrel : ∀ (b : Nat) (ty : TypeId) (us : Array Value), E.blk p = some b → E.w.heap[b]? = some (.cells us ty (0, 0)) → us.size = cs.length → RelVs E cs' us.toList) :
    InvE A (upd t p (.box cs')) a E := by
  refine ⟨⟨fun q hq => ?_, hi.h.frees, hi.h.inj, hi.h.size, hi.h.stsz, fun b o h1 q h2 => ?_, hi.h.gl⟩, hi.fr, fun k tv hk => ?_, hi.defers, hi.size⟩
  · by_cases e : q = p
    · subst e
      have h := hi.h.item q hq
      rw [hp] at h
      simp only [upd, if_true]
      obtain ⟨h1, b, ty, us, h2, h3, h4, h5⟩ := h
      obtain ⟨g1, g2⟩ := h5.vs
      have g3 := hrel b ty us h2 h3 h4
      have hl := g3.len
      rw [Array.length_toList] at hl
      refine ⟨h1, b, ty, us, h2, h3, hl, RelVs.cellsB (by simp; omega) ?_ fun i i1 i2 => g2 i i1 (by omega)⟩
      rw [List.drop_zero, List.take_of_length_le (by simp; omega)]
      exact g3
    · simp only [upd, if_neg e]; exact hi.h.item q hq
  · obtain ⟨e, k, es, h3, h4⟩ := hi.h.sep b o h1 q h2
    refine ⟨e, k, es, ?_, h4⟩
    have : q ≠ p := fun e => by subst e; rw [hp] at h3; simp at h3
    simp only [upd, if_neg this]; exact h3
  · have : Pl.s k ≠ p := fun e => hs k e.symm
    simp only [upd, if_neg this] at hk
    exact hi.sl k tv hk

/-- the own rows in a box, seen as plain data -/
def boxV (t : S) (p : Pl) : VR :=
  match t p with
  | .box cs => match seeVs t cs with
    | some (C, rp, vs', W) => .some C (p :: rp) ((p, .box vs') :: W)
    | none => .none
  | _ => .none

theorem seeV_W {t : S} {c c' : TV} {C : Prop} {rp : List Pl} {W : List (Pl × It)} (h : seeV t c = some (C, rp, c', W)) : ∀ p ∈ W.map (·.1), ∃ e k es sh, t p = .row e k es sh := by
  unfold seeV at h
  split at h
  · split at h
    · rename_i ht
      split at h
      · simp only [Option.some.injEq, Prod.mk.injEq] at h
        obtain ⟨rfl, rfl, rfl, rfl⟩ := h
        intro p hp
        simp at hp; subst hp
        exact ⟨_, _, _, _, ht⟩
      · simp at h
    · simp at h
  · simp only [Option.some.injEq, Prod.mk.injEq] at h
    obtain ⟨rfl, rfl, rfl, rfl⟩ := h
    simp
  · simp at h

theorem seeV_R {t : S} {c c' : TV} {C : Prop} {rp : List Pl} {W : List (Pl × It)} (h : seeV t c = some (C, rp, c', W)) : ∀ x ∈ W, ∃ e k es sh, x.2 = .row e k es sh := by
  unfold seeV at h
  split at h
  · split at h
    · split at h
      · simp only [Option.some.injEq, Prod.mk.injEq] at h
        obtain ⟨rfl, rfl, rfl, rfl⟩ := h
        intro p hp
        simp at hp; subst hp
        exact ⟨_, _, _, _, rfl⟩
      · simp at h
    · simp at h
  · simp only [Option.some.injEq, Prod.mk.injEq] at h
    obtain ⟨rfl, rfl, rfl, rfl⟩ := h
    simp
  · simp at h

theorem over_row {t : S} : ∀ {W : List (Pl × It)}, (∀ x ∈ W, ∃ e k es sh, x.2 = .row e k es sh) → ∀ p, (∃ e k es sh, over t W p = .row e k es sh) ∨ (over t W p = t p)
  | [], _, p => .inr rfl
  | (q, i) :: W, h, p => by
    simp only [over, upd]
    split
    · obtain ⟨e, k, es, sh, hi⟩ := h (q, i) (by simp)
      exact .inl ⟨e, k, es, sh, hi⟩
    · exact over_row (fun x hx => h x (by simp [hx])) p

theorem seeVs_W : ∀ {vs : List TV} {t : S} {vs' : List TV} {C : Prop} {rp : List Pl} {W : List (Pl × It)}, seeVs t vs = some (C, rp, vs', W) → (∀ x ∈ W, ∃ e k es sh, x.2 = .row e k es sh) ∧ ∀ p cs, t p = .box cs → p ∉ W.map (·.1)
  | [], _, _, _, _, _, h => by simp [seeVs] at h
  | c :: l, t, vs', C, rp, W, h => by
    simp only [seeVs] at h
    split at h
    · split at h
      · simp at h
      · rename_i hl
        simp only [Option.some.injEq, Prod.mk.injEq] at h
        obtain ⟨rfl, rfl, rfl, rfl⟩ := h
        exact seeVs_W hl
    · rename_i C1 rp1 c1 W1 hc
      have hW := seeV_W hc
      have hR := seeV_R hc
      have hn : ∀ p cs, t p = .box cs → p ∉ W1.map (·.1) := fun p cs hp hm => by
        obtain ⟨e, k, es, sh, hr⟩ := hW p hm
        rw [hp] at hr; simp at hr
      split at h
      · simp only [Option.some.injEq, Prod.mk.injEq] at h
        obtain ⟨rfl, rfl, rfl, rfl⟩ := h
        exact ⟨hR, hn⟩
      · rename_i hl
        simp only [Option.some.injEq, Prod.mk.injEq] at h
        obtain ⟨rfl, rfl, rfl, rfl⟩ := h
        obtain ⟨g1, g2⟩ := seeVs_W hl
        refine ⟨fun x hx => ?_, fun p cs hp hm => ?_⟩
        · rcases List.mem_append.1 hx with h | h
          · exact g1 x h
          · exact hR x h
        · rw [List.map_append, List.mem_append] at hm
          rcases hm with h | h
          · exact g2 p cs (by rw [over_get (hn p cs hp)]; exact hp) h
          · exact hn p cs hp h

theorem boxV_ok {t : S} {p : Pl} (hs : isPl p = true) (hC : (boxV t p).C) : GS A t (over t (boxV t p).W) := fun a w hi => by
  unfold boxV at hC ⊢
  split
  · rename_i cs hp
    rw [hp] at hC
    split
    · rename_i C rp vs' W hv
      simp only [hv, VR.C] at hC
      obtain ⟨E, hw, hi⟩ := hi
      obtain ⟨E', k1, k2, k3, k4⟩ := seeVs_ok hv hC (fun _ _ => rfl) hi
      have hbox : over t W p = .box cs := by rw [over_get ((seeVs_W hv).2 p cs hp)]; exact hp
      simp only [VR.W, over]
      refine ⟨E', k1.trans hw, k3.boxAll (fun k e => by subst e; simp [isPl] at hs) hbox fun b ty us e1 e2 e3 => k4 _ ?_⟩
      have h := hi.h.item p (fun k e => by subst e; simp [isPl] at hs)
      rw [hp] at h
      obtain ⟨h1, b0, ty0, us0, h2, h3, h4, h5⟩ := h
      have hb : E'.blk p = some b0 := by
        cases p with
        | o id => exact k2.blko id b0 trivial h2
        | x id => exact k2.blkx id b0 h2
        | s id => simp [isPl] at hs
      rw [hb] at e1
      simp only [Option.some.injEq] at e1
      subst e1
      rw [k1, h3] at e2
      simp only [Option.some.injEq, Obj.cells.injEq, and_true] at e2
      obtain ⟨rfl, rfl⟩ := e2
      have := h5.vs.1
      rwa [List.drop_zero, List.take_of_length_le (by simp; omega)] at this
    · exact hi
  · exact hi
end
section
variable {A : Actv}
theorem GS.seeBox {l l' : List (Pl × It)} (p : Pl) (hs : isPl p = true) (h : (boxV (look l) p).C ∧ Sub (look (overL (boxV (look l) p).W l)) l' ∧ xIds l' = xIds (overL (boxV (look l) p).W l)) : GS A (look l) (look l') := fun a w hi => by
  have := boxV_ok hs h.1 a w hi
  rw [over_look] at this
  exact GS.forget h.2.1 h.2.2 a w this
attribute [simp] boxV
end

theorem Fin.gs {P : Program} {A : Actv} {fn : Func} {r : TV} {xs : List It} {ro : List (Nat × It)} {l l' : List (Pl × It)} (g : GS A (look l) (look l')) (h : Fin P A fn r xs ro (look l')) : Fin P A fn r xs ro (look l) :=
  fun a w hi => h a w (g a w hi)
theorem Fin.box {P : Program} {A : Actv} {fn : Func} {r : TV} {xs : List It} {ro : List (Nat × It)} {l : List (Pl × It)} (p : Pl) (hs : isPl p = true) (h : (boxV (look l) p).C ∧ Fin P A fn r xs ro (over (look l) (boxV (look l) p).W)) : Fin P A fn r xs ro (look l) :=
  fun a w hi => h.2 a w (boxV_ok hs h.1 a w hi)
end Go.Tr
