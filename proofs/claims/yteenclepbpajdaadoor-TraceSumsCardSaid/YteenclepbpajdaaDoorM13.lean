/-
  What functions of the program compute, stated as contracts over plain data; the conditions of each stand in its own statement.
-/
import Derived.Test.YteenclepbpajdaaDoorM12
import Derived.Test.YteenclepbpajdaaDoorM07
import Derived.KernelRfl
import Derived.Test.YteenclepbpajdaaDoorChecked
import Derived.ProofKit
set_option linter.unusedSimpArgs false
namespace Go.Tr
open Go
/-! ### a law, from without -/
/-- the world as a caller sees it who owns nothing -/
def inE (w : World) : En := { w := w, St := fun b _ => b < w.heap.size, blk := fun _ => none, val := fun _ => none }
/-- the package-level variables hold what is said of them -/
def GlobW (w : World) : Prop := ∀ y ∈ globs, RepCells (inE w) y.1 0 y.2
theorem inE_inv (w : World) (hg : GlobW w) : HInv (inE w) (xlook []) := by
  refine ⟨fun p hp => ?_, fun _ => rfl, fun p q b h => ?_, fun p b h => ?_, fun b o h => h, fun b o h p g => ?_, hg⟩
  · have : xlook [] p = .none := by cases p <;> simp [xlook]
    rw [this]
    exact fun id _ => ⟨rfl, rfl⟩
  · cases p <;> simp [En.own, inE] at h
  · cases p <;> simp [En.own, inE] at h
  · cases p <;> simp [En.own, inE] at g
theorem Contract.law {P : Program} {f : FuncId} {args : List TV} {r : TV} {ro : List (Nat × It)} (c : Contract P f args [] r [] ro) {w : World} (hg : GlobW w) {us : List Value} (h : RelVs (inE w) args us) :
    Calls P f us.toArray w fun e w' => ∃ u E', e = .returned u ∧ RelV E' r u ∧ RowKit.Below w.heap.size w w' := by
  refine (c (inE w) us (inE_inv w hg) h).mono fun e w' ⟨u, E', he, hw, hp⟩ => ⟨u, E', he, hp.rel, ?_⟩
  subst hw
  exact ⟨hp.fr.os, hp.fr.tape, hp.fr.output, hp.fr.size, fun k hk => hp.fr.old k hk (fun i => by simp [inE]) (fun i => by simp [En.own, inE])⟩
section
variable {A : Actv}
theorem CellsRel.vs {E : En} {us : List Value} : ∀ {ts : List TV} {o : Nat}, CellsRel E us o ts → RelVs E ts ((us.drop o).take ts.length) ∧ (∀ i, o ≤ i → i < o + ts.length → ∃ u, us[i]? = some u ∧ u.oneCell' = true)
  | [], o, _ => ⟨by simp [RelVs], fun i h1 h2 => by simp at h2; omega⟩
  | t :: ts, o, ⟨⟨u, h1, h2, h3⟩, r⟩ => by
    obtain ⟨g1, g2⟩ := CellsRel.vs r
    have hlt : o < us.length := (List.getElem?_eq_some_iff.1 h1).1
    have hu : us[o] = u := by rw [List.getElem?_eq_getElem hlt] at h1; simpa using h1
    refine ⟨?_, fun i i1 i2 => ?_⟩
    · rw [List.drop_eq_getElem_cons hlt, List.length_cons, List.take_succ_cons, hu]
      simp only [RelVs]
      exact ⟨u, _, rfl, h3, g1⟩
    · by_cases e : i = o
      · subst e; exact ⟨u, h1, h2⟩
      · exact g2 i (by omega) (by simp at i2; omega)
theorem RelVs.len {E : En} : ∀ {ts : List TV} {us : List Value}, RelVs E ts us → us.length = ts.length
  | [], us, h => by simp only [RelVs] at h; subst h; rfl
  | t :: ts, us, h => by
    simp only [RelVs] at h
    obtain ⟨u, us', rfl, _, g⟩ := h
    simp [RelVs.len g]
theorem RelVs.cellsB {E : En} {us : List Value} : ∀ {ts : List TV} {o : Nat}, o + ts.length ≤ us.length → RelVs E ts ((us.drop o).take ts.length) → (∀ i, o ≤ i → i < o + ts.length → ∃ u, us[i]? = some u ∧ u.oneCell' = true) → CellsRel E us o ts
  | [], _, _, _, _ => trivial
  | t :: ts, o, hl, h, h1 => by
    have hlt : o < us.length := by simp at hl; omega
    rw [List.drop_eq_getElem_cons hlt, List.length_cons, List.take_succ_cons] at h
    simp only [RelVs] at h
    obtain ⟨u, us', he, g1, g2⟩ := h
    simp only [List.cons.injEq] at he
    obtain ⟨rfl, rfl⟩ := he
    refine ⟨⟨us[o], List.getElem?_eq_getElem hlt, ?_, g1⟩, RelVs.cellsB (by simp at hl; omega) g2 fun i i1 i2 => h1 i (by omega) (by simp; omega)⟩
    obtain ⟨u, e1, e2⟩ := h1 o (by omega) (by simp)
    rw [List.getElem?_eq_getElem hlt] at e1
    simp only [Option.some.injEq] at e1
    rw [e1]; exact e2
/-- the cells of a box, seen in another way -/
theorem InvE.boxAll {t : S} {a : Act} {E : En} {p : Pl} {cs cs' : List TV} (hi : InvE A t a E) (hs : ∀ k, p ≠ .s k) (hp : t p = .box cs)
    (hrel : ∀ (b : Nat) (ty : TypeId) (us : Array Value), E.blk p = some b → E.w.heap[b]? = some (.cells us ty (0, 0)) → us.size = cs.length → RelVs E cs' us.toList) :
    InvE A (upd t p (.box cs')) a E := by
  refine ⟨⟨fun q hq => ?_, hi.h.frees, hi.h.inj, hi.h.size, hi.h.stsz, fun b o h1 q h2 => ?_, hi.h.gl⟩, hi.fr, fun k tv hk => ?_, hi.defers, hi.size⟩
  · by_cases e : q = p
    · subst e
      have h := hi.h.item q hq
      rw [hp] at h
      simp only [upd, if_true]
      obtain ⟨h1, b, ty, us, h2, h3, h4, h5⟩ := h
      obtain ⟨g1, g2⟩ := h5.vs
      have g3 := hrel b ty us h2 h3 h4
      have hl := g3.len
      rw [Array.length_toList] at hl
      refine ⟨h1, b, ty, us, h2, h3, hl, RelVs.cellsB (by simp; omega) ?_ fun i i1 i2 => g2 i i1 (by omega)⟩
      rw [List.drop_zero, List.take_of_length_le (by simp; omega)]
      exact g3
    · simp only [upd, if_neg e]; exact hi.h.item q hq
  · obtain ⟨e, k, es, h3, h4⟩ := hi.h.sep b o h1 q h2
    refine ⟨e, k, es, ?_, h4⟩
    have : q ≠ p := fun e => by subst e; rw [hp] at h3; simp at h3
    simp only [upd, if_neg this]; exact h3
  · have : Pl.s k ≠ p := fun e => hs k e.symm
    simp only [upd, if_neg this] at hk
    exact hi.sl k tv hk
/-- the own rows in a box, seen as plain data -/
def boxV (t : S) (p : Pl) : VR :=
  match t p with
  | .box cs => match seeVs t cs with
    | some (C, rp, vs', W) => .some C (p :: rp) ((p, .box vs') :: W)
    | none => .none
  | _ => .none
theorem seeV_W {t : S} {c c' : TV} {C : Prop} {rp : List Pl} {W : List (Pl × It)} (h : seeV t c = some (C, rp, c', W)) : ∀ p ∈ W.map (·.1), ∃ e k es sh, t p = .row e k es sh := by
  unfold seeV at h
  split at h
  · split at h
    · rename_i ht
      split at h
      · simp only [Option.some.injEq, Prod.mk.injEq] at h
        obtain ⟨rfl, rfl, rfl, rfl⟩ := h
        intro p hp
        simp at hp; subst hp
        exact ⟨_, _, _, _, ht⟩
      · simp at h
    · simp at h
  · simp only [Option.some.injEq, Prod.mk.injEq] at h
    obtain ⟨rfl, rfl, rfl, rfl⟩ := h
    simp
  · simp at h
theorem seeV_R {t : S} {c c' : TV} {C : Prop} {rp : List Pl} {W : List (Pl × It)} (h : seeV t c = some (C, rp, c', W)) : ∀ x ∈ W, ∃ e k es sh, x.2 = .row e k es sh := by
  unfold seeV at h
  split at h
  · split at h
    · split at h
      · simp only [Option.some.injEq, Prod.mk.injEq] at h
        obtain ⟨rfl, rfl, rfl, rfl⟩ := h
        intro p hp
        simp at hp; subst hp
        exact ⟨_, _, _, _, rfl⟩
      · simp at h
    · simp at h
  · simp only [Option.some.injEq, Prod.mk.injEq] at h
    obtain ⟨rfl, rfl, rfl, rfl⟩ := h
    simp
  · simp at h
theorem seeVs_W : ∀ {vs : List TV} {t : S} {vs' : List TV} {C : Prop} {rp : List Pl} {W : List (Pl × It)}, seeVs t vs = some (C, rp, vs', W) → (∀ x ∈ W, ∃ e k es sh, x.2 = .row e k es sh) ∧ ∀ p cs, t p = .box cs → p ∉ W.map (·.1)
  | [], _, _, _, _, _, h => by simp [seeVs] at h
  | c :: l, t, vs', C, rp, W, h => by
    simp only [seeVs] at h
    split at h
    · split at h
      · simp at h
      · rename_i hl
        simp only [Option.some.injEq, Prod.mk.injEq] at h
        obtain ⟨rfl, rfl, rfl, rfl⟩ := h
        exact seeVs_W hl
    · rename_i C1 rp1 c1 W1 hc
      have hW := seeV_W hc
      have hR := seeV_R hc
      have hn : ∀ p cs, t p = .box cs → p ∉ W1.map (·.1) := fun p cs hp hm => by
        obtain ⟨e, k, es, sh, hr⟩ := hW p hm
        rw [hp] at hr; simp at hr
      split at h
      · simp only [Option.some.injEq, Prod.mk.injEq] at h
        obtain ⟨rfl, rfl, rfl, rfl⟩ := h
        exact ⟨hR, hn⟩
      · rename_i hl
        simp only [Option.some.injEq, Prod.mk.injEq] at h
        obtain ⟨rfl, rfl, rfl, rfl⟩ := h
        obtain ⟨g1, g2⟩ := seeVs_W hl
        refine ⟨fun x hx => ?_, fun p cs hp hm => ?_⟩
        · rcases List.mem_append.1 hx with h | h
          · exact g1 x h
          · exact hR x h
        · rw [List.map_append, List.mem_append] at hm
          rcases hm with h | h
          · exact g2 p cs (by rw [over_get (hn p cs hp)]; exact hp) h
          · exact hn p cs hp h
theorem boxV_ok {t : S} {p : Pl} (hs : isPl p = true) (hC : (boxV t p).C) : GS A t (over t (boxV t p).W) := fun a w hi => by
  unfold boxV at hC ⊢
  split
  · rename_i cs hp
    rw [hp] at hC
    split
    · rename_i C rp vs' W hv
      simp only [hv, VR.C] at hC
      obtain ⟨E, hw, hi⟩ := hi
      obtain ⟨E', k1, k2, k3, k4⟩ := seeVs_ok hv hC (fun _ _ => rfl) hi
      have hbox : over t W p = .box cs := by rw [over_get ((seeVs_W hv).2 p cs hp)]; exact hp
      simp only [VR.W, over]
      refine ⟨E', k1.trans hw, k3.boxAll (fun k e => by subst e; simp [isPl] at hs) hbox fun b ty us e1 e2 e3 => k4 _ ?_⟩
      have h := hi.h.item p (fun k e => by subst e; simp [isPl] at hs)
      rw [hp] at h
      obtain ⟨h1, b0, ty0, us0, h2, h3, h4, h5⟩ := h
      have hb : E'.blk p = some b0 := by
        cases p with
        | o id => exact k2.blko id b0 trivial h2
        | x id => exact k2.blkx id b0 h2
        | s id => simp [isPl] at hs
      rw [hb] at e1
      simp only [Option.some.injEq] at e1
      subst e1
      rw [k1, h3] at e2
      simp only [Option.some.injEq, Obj.cells.injEq, and_true] at e2
      obtain ⟨rfl, rfl⟩ := e2
      have := h5.vs.1
      rwa [List.drop_zero, List.take_of_length_le (by simp; omega)] at this
    · exact hi
  · exact hi
end
section
variable {A : Actv}
attribute [simp] boxV
end
theorem Fin.gs {P : Program} {A : Actv} {fn : Func} {r : TV} {xs : List It} {ro : List (Nat × It)} {l l' : List (Pl × It)} (g : GS A (look l) (look l')) (h : Fin P A fn r xs ro (look l')) : Fin P A fn r xs ro (look l) :=
  fun a w hi => h a w (g a w hi)
theorem Fin.box {P : Program} {A : Actv} {fn : Func} {r : TV} {xs : List It} {ro : List (Nat × It)} {l : List (Pl × It)} (p : Pl) (hs : isPl p = true) (h : (boxV (look l) p).C ∧ Fin P A fn r xs ro (over (look l) (boxV (look l) p).W)) : Fin P A fn r xs ro (look l) :=
  fun a w hi => h.2 a w (boxV_ok hs h.1 a w hi)
end Go.Tr

namespace Go.Proofs
open Go Go.Tr
@[simp] theorem lf3 : lf Tryd.prog 3 = some 0 := by kernel_rfl
@[simp] theorem shp3 : shp Tryd.prog 3 = some false := by kernel_rfl
@[simp] theorem szO3 : szO Tryd.prog 3 = some 1 := by kernel_rfl
@[simp] theorem knd3 : knd Tryd.prog 3 = some .i64 := by kernel_rfl
@[simp] theorem byO3 : byO Tryd.prog 3 = some 8 := by kernel_rfl
@[simp] theorem zrO3 : zrO Tryd.prog 3 = some (Value.int .i64 0) := by kernel_rfl
@[simp] theorem shp4 : shp Tryd.prog 4 = some false := by kernel_rfl
@[simp] theorem szO4 : szO Tryd.prog 4 = some 1 := by kernel_rfl
@[simp] theorem shp5 : shp Tryd.prog 5 = some false := by kernel_rfl
@[simp] theorem szO5 : szO Tryd.prog 5 = some 1 := by kernel_rfl
@[simp] theorem shp9 : shp Tryd.prog 9 = some false := by kernel_rfl
@[simp] theorem szO9 : szO Tryd.prog 9 = some 1 := by kernel_rfl
@[simp] theorem isStr9 : isStr Tryd.prog 9 = true := by kernel_rfl
@[simp] theorem shp22 : shp Tryd.prog 22 = some false := by kernel_rfl
@[simp] theorem szO22 : szO Tryd.prog 22 = some 1 := by kernel_rfl
@[simp] theorem slE22 : slE Tryd.prog 22 = some 44 := by kernel_rfl
@[simp] theorem shp23 : shp Tryd.prog 23 = some false := by kernel_rfl
@[simp] theorem szO23 : szO Tryd.prog 23 = some 1 := by kernel_rfl
@[simp] theorem slE23 : slE Tryd.prog 23 = some 42 := by kernel_rfl
@[simp] theorem shp24 : shp Tryd.prog 24 = some false := by kernel_rfl
@[simp] theorem szO24 : szO Tryd.prog 24 = some 1 := by kernel_rfl
@[simp] theorem slE24 : slE Tryd.prog 24 = some 46 := by kernel_rfl
@[simp] theorem shp26 : shp Tryd.prog 26 = some true := by kernel_rfl
@[simp] theorem szO26 : szO Tryd.prog 26 = some 3 := by kernel_rfl
@[simp] theorem fld0_26 : fld Tryd.prog 26 0 = some (0, 22) := by kernel_rfl
@[simp] theorem fld1_26 : fld Tryd.prog 26 1 = some (1, 23) := by kernel_rfl
@[simp] theorem fld2_26 : fld Tryd.prog 26 2 = some (2, 24) := by kernel_rfl
@[simp] theorem stF26 : stF Tryd.prog 26 = some [(0, 1), (1, 1), (2, 1)] := by kernel_rfl
@[simp] theorem zrO26 : zrO Tryd.prog 26 = some (Value.agg #[.slice none 0 0, .slice none 0 0, .slice none 0 0]) := by kernel_rfl
@[simp] theorem lf28 : lf Tryd.prog 28 = some 0 := by kernel_rfl
@[simp] theorem shp28 : shp Tryd.prog 28 = some false := by kernel_rfl
@[simp] theorem szO28 : szO Tryd.prog 28 = some 1 := by kernel_rfl
@[simp] theorem zrO28 : zrO Tryd.prog 28 = some (Value.int .u64 0) := by kernel_rfl
@[simp] theorem shp31 : shp Tryd.prog 31 = some false := by kernel_rfl
@[simp] theorem szO31 : szO Tryd.prog 31 = some 1 := by kernel_rfl
@[simp] theorem slE31 : slE Tryd.prog 31 = some 3 := by kernel_rfl
@[simp] theorem shp37 : shp Tryd.prog 37 = some false := by kernel_rfl
@[simp] theorem slE37 : slE Tryd.prog 37 = some 54 := by kernel_rfl
@[simp] theorem shp40 : shp Tryd.prog 40 = some true := by kernel_rfl
@[simp] theorem szO40 : szO Tryd.prog 40 = some 10 := by kernel_rfl
@[simp] theorem fld0_40 : fld Tryd.prog 40 0 = some (0, 3) := by kernel_rfl
@[simp] theorem fld1_40 : fld Tryd.prog 40 1 = some (1, 3) := by kernel_rfl
@[simp] theorem fld2_40 : fld Tryd.prog 40 2 = some (2, 3) := by kernel_rfl
@[simp] theorem fld3_40 : fld Tryd.prog 40 3 = some (3, 3) := by kernel_rfl
@[simp] theorem fld4_40 : fld Tryd.prog 40 4 = some (4, 3) := by kernel_rfl
@[simp] theorem fld5_40 : fld Tryd.prog 40 5 = some (5, 3) := by kernel_rfl
@[simp] theorem fld6_40 : fld Tryd.prog 40 6 = some (6, 3) := by kernel_rfl
@[simp] theorem fld7_40 : fld Tryd.prog 40 7 = some (7, 3) := by kernel_rfl
@[simp] theorem fld8_40 : fld Tryd.prog 40 8 = some (8, 28) := by kernel_rfl
@[simp] theorem fld9_40 : fld Tryd.prog 40 9 = some (9, 9) := by kernel_rfl
@[simp] theorem stF40 : stF Tryd.prog 40 = some [(0, 1), (1, 1), (2, 1), (3, 1), (4, 1), (5, 1), (6, 1), (7, 1), (8, 1), (9, 1)] := by kernel_rfl
@[simp] theorem zrO40 : zrO Tryd.prog 40 = some (Value.agg #[.int .i64 0, .int .i64 0, .int .i64 0, .int .i64 0, .int .i64 0, .int .i64 0, .int .i64 0, .int .i64 0, .int .u64 0, .string ⟨#[]⟩]) := by kernel_rfl
@[simp] theorem eqFs42 : eqFs Tryd.prog 42 = some [(0, 3), (1, 3), (2, 28)] := by kernel_rfl
@[simp] theorem eqGd42 : eqGd Tryd.prog 42 = true := by kernel_rfl
@[simp] theorem shp42 : shp Tryd.prog 42 = some true := by kernel_rfl
@[simp] theorem szO42 : szO Tryd.prog 42 = some 3 := by kernel_rfl
@[simp] theorem stF42 : stF Tryd.prog 42 = some [(0, 1), (1, 1), (2, 1)] := by kernel_rfl
@[simp] theorem byO42 : byO Tryd.prog 42 = some 24 := by kernel_rfl
@[simp] theorem zrO42 : zrO Tryd.prog 42 = some (Value.agg #[.int .i64 0, .int .i64 0, .int .u64 0]) := by kernel_rfl
@[simp] theorem shp44 : shp Tryd.prog 44 = some true := by kernel_rfl
@[simp] theorem szO44 : szO Tryd.prog 44 = some 11 := by kernel_rfl
@[simp] theorem fld0_44 : fld Tryd.prog 44 0 = some (0, 3) := by kernel_rfl
@[simp] theorem fld1_44 : fld Tryd.prog 44 1 = some (1, 40) := by kernel_rfl
@[simp] theorem stF44 : stF Tryd.prog 44 = some [(0, 1), (1, 10)] := by kernel_rfl
@[simp] theorem byO44 : byO Tryd.prog 44 = some 96 := by kernel_rfl
@[simp] theorem zrO44 : zrO Tryd.prog 44 = some (Value.agg #[.int .i64 0, .int .i64 0, .int .i64 0, .int .i64 0, .int .i64 0, .int .i64 0, .int .i64 0, .int .i64 0, .int .i64 0, .int .u64 0, .string ⟨#[]⟩]) := by kernel_rfl
@[simp] theorem shp46 : shp Tryd.prog 46 = some true := by kernel_rfl
@[simp] theorem szO46 : szO Tryd.prog 46 = some 2 := by kernel_rfl
@[simp] theorem fld1_46 : fld Tryd.prog 46 1 = some (1, 28) := by kernel_rfl
@[simp] theorem stF46 : stF Tryd.prog 46 = some [(0, 1), (1, 1)] := by kernel_rfl
@[simp] theorem byO46 : byO Tryd.prog 46 = some 16 := by kernel_rfl
@[simp] theorem zrO46 : zrO Tryd.prog 46 = some (Value.agg #[.int .i64 0, .int .u64 0]) := by kernel_rfl
@[simp] theorem shp52 : shp Tryd.prog 52 = some false := by kernel_rfl
@[simp] theorem szO52 : szO Tryd.prog 52 = some 1 := by kernel_rfl
@[simp] theorem slE52 : slE Tryd.prog 52 = some 94 := by kernel_rfl
@[simp] theorem shp54 : shp Tryd.prog 54 = some true := by kernel_rfl
@[simp] theorem szO54 : szO Tryd.prog 54 = some 4 := by kernel_rfl
@[simp] theorem fld0_54 : fld Tryd.prog 54 0 = some (0, 3) := by kernel_rfl
@[simp] theorem fld1_54 : fld Tryd.prog 54 1 = some (1, 3) := by kernel_rfl
@[simp] theorem fld2_54 : fld Tryd.prog 54 2 = some (2, 3) := by kernel_rfl
@[simp] theorem fld3_54 : fld Tryd.prog 54 3 = some (3, 52) := by kernel_rfl
@[simp] theorem stF54 : stF Tryd.prog 54 = some [(0, 1), (1, 1), (2, 1), (3, 1)] := by kernel_rfl
@[simp] theorem byO54 : byO Tryd.prog 54 = some 48 := by kernel_rfl
@[simp] theorem zrO54 : zrO Tryd.prog 54 = some (Value.agg #[.int .i64 0, .int .i64 0, .int .i64 0, .slice none 0 0]) := by kernel_rfl
@[simp] theorem shp58 : shp Tryd.prog 58 = some true := by kernel_rfl
@[simp] theorem szO58 : szO Tryd.prog 58 = some 11 := by kernel_rfl
@[simp] theorem fld0_58 : fld Tryd.prog 58 0 = some (0, 3) := by kernel_rfl
@[simp] theorem fld1_58 : fld Tryd.prog 58 1 = some (1, 40) := by kernel_rfl
@[simp] theorem stF58 : stF Tryd.prog 58 = some [(0, 1), (1, 10)] := by kernel_rfl
@[simp] theorem byO58 : byO Tryd.prog 58 = some 96 := by kernel_rfl
@[simp] theorem zrO58 : zrO Tryd.prog 58 = some (Value.agg #[.int .i64 0, .int .i64 0, .int .i64 0, .int .i64 0, .int .i64 0, .int .i64 0, .int .i64 0, .int .i64 0, .int .i64 0, .int .u64 0, .string ⟨#[]⟩]) := by kernel_rfl
@[simp] theorem slE59 : slE Tryd.prog 59 = some 58 := by kernel_rfl
@[simp] theorem shp60 : shp Tryd.prog 60 = some false := by kernel_rfl
@[simp] theorem szO60 : szO Tryd.prog 60 = some 1 := by kernel_rfl
@[simp] theorem slE60 : slE Tryd.prog 60 = some 69 := by kernel_rfl
@[simp] theorem shp62 : shp Tryd.prog 62 = some true := by kernel_rfl
@[simp] theorem szO62 : szO Tryd.prog 62 = some 3 := by kernel_rfl
@[simp] theorem fld0_62 : fld Tryd.prog 62 0 = some (0, 28) := by kernel_rfl
@[simp] theorem fld1_62 : fld Tryd.prog 62 1 = some (1, 28) := by kernel_rfl
@[simp] theorem fld2_62 : fld Tryd.prog 62 2 = some (2, 60) := by kernel_rfl
@[simp] theorem stF62 : stF Tryd.prog 62 = some [(0, 1), (1, 1), (2, 1)] := by kernel_rfl
@[simp] theorem zrO62 : zrO Tryd.prog 62 = some (Value.agg #[.int .u64 0, .int .u64 0, .slice none 0 0]) := by kernel_rfl
@[simp] theorem szO67 : szO Tryd.prog 67 = some 11 := by kernel_rfl
@[simp] theorem fld1_67 : fld Tryd.prog 67 1 = some (1, 40) := by kernel_rfl
@[simp] theorem stF67 : stF Tryd.prog 67 = some [(0, 1), (1, 10)] := by kernel_rfl
@[simp] theorem zrO67 : zrO Tryd.prog 67 = some (Value.agg #[.slice none 0 0, .int .i64 0, .int .i64 0, .int .i64 0, .int .i64 0, .int .i64 0, .int .i64 0, .int .i64 0, .int .i64 0, .int .u64 0, .string ⟨#[]⟩]) := by kernel_rfl
@[simp] theorem shp69 : shp Tryd.prog 69 = some true := by kernel_rfl
@[simp] theorem szO69 : szO Tryd.prog 69 = some 12 := by kernel_rfl
@[simp] theorem fld0_69 : fld Tryd.prog 69 0 = some (0, 3) := by kernel_rfl
@[simp] theorem fld1_69 : fld Tryd.prog 69 1 = some (1, 67) := by kernel_rfl
@[simp] theorem stF69 : stF Tryd.prog 69 = some [(0, 1), (1, 11)] := by kernel_rfl
@[simp] theorem byO69 : byO Tryd.prog 69 = some 120 := by kernel_rfl
@[simp] theorem zrO69 : zrO Tryd.prog 69 = some (Value.agg #[.int .i64 0, .slice none 0 0, .int .i64 0, .int .i64 0, .int .i64 0, .int .i64 0, .int .i64 0, .int .i64 0, .int .i64 0, .int .i64 0, .int .u64 0, .string ⟨#[]⟩]) := by kernel_rfl
@[simp] theorem szO71 : szO Tryd.prog 71 = some 2 := by kernel_rfl
@[simp] theorem fld0_71 : fld Tryd.prog 71 0 = some (0, 3) := by kernel_rfl
@[simp] theorem fld1_71 : fld Tryd.prog 71 1 = some (1, 4) := by kernel_rfl
@[simp] theorem stF71 : stF Tryd.prog 71 = some [(0, 1), (1, 1)] := by kernel_rfl
@[simp] theorem zrO71 : zrO Tryd.prog 71 = some (Value.agg #[.int .i64 0, .bool false]) := by kernel_rfl
@[simp] theorem shp72 : shp Tryd.prog 72 = some false := by kernel_rfl
@[simp] theorem szO72 : szO Tryd.prog 72 = some 1 := by kernel_rfl
@[simp] theorem slE72 : slE Tryd.prog 72 = some 71 := by kernel_rfl
@[simp] theorem shp74 : shp Tryd.prog 74 = some true := by kernel_rfl
@[simp] theorem szO74 : szO Tryd.prog 74 = some 5 := by kernel_rfl
@[simp] theorem fld0_74 : fld Tryd.prog 74 0 = some (0, 3) := by kernel_rfl
@[simp] theorem fld1_74 : fld Tryd.prog 74 1 = some (1, 3) := by kernel_rfl
@[simp] theorem fld2_74 : fld Tryd.prog 74 2 = some (2, 3) := by kernel_rfl
@[simp] theorem fld3_74 : fld Tryd.prog 74 3 = some (3, 3) := by kernel_rfl
@[simp] theorem fld4_74 : fld Tryd.prog 74 4 = some (4, 3) := by kernel_rfl
@[simp] theorem stF74 : stF Tryd.prog 74 = some [(0, 1), (1, 1), (2, 1), (3, 1), (4, 1)] := by kernel_rfl
@[simp] theorem zrO74 : zrO Tryd.prog 74 = some (Value.agg #[.int .i64 0, .int .i64 0, .int .i64 0, .int .i64 0, .int .i64 0]) := by kernel_rfl
@[simp] theorem shp75 : shp Tryd.prog 75 = some false := by kernel_rfl
@[simp] theorem szO75 : szO Tryd.prog 75 = some 1 := by kernel_rfl
@[simp] theorem slE75 : slE Tryd.prog 75 = some 74 := by kernel_rfl
@[simp] theorem shp77 : shp Tryd.prog 77 = some true := by kernel_rfl
@[simp] theorem szO77 : szO Tryd.prog 77 = some 2 := by kernel_rfl
@[simp] theorem fld0_77 : fld Tryd.prog 77 0 = some (0, 72) := by kernel_rfl
@[simp] theorem fld1_77 : fld Tryd.prog 77 1 = some (1, 75) := by kernel_rfl
@[simp] theorem stF77 : stF Tryd.prog 77 = some [(0, 1), (1, 1)] := by kernel_rfl
@[simp] theorem zrO77 : zrO Tryd.prog 77 = some (Value.agg #[.slice none 0 0, .slice none 0 0]) := by kernel_rfl
@[simp] theorem shp81 : shp Tryd.prog 81 = some true := by kernel_rfl
@[simp] theorem szO81 : szO Tryd.prog 81 = some 2 := by kernel_rfl
@[simp] theorem fld0_81 : fld Tryd.prog 81 0 = some (0, 3) := by kernel_rfl
@[simp] theorem fld1_81 : fld Tryd.prog 81 1 = some (1, 3) := by kernel_rfl
@[simp] theorem stF81 : stF Tryd.prog 81 = some [(0, 1), (1, 1)] := by kernel_rfl
@[simp] theorem zrO81 : zrO Tryd.prog 81 = some (Value.agg #[.int .i64 0, .int .i64 0]) := by kernel_rfl
@[simp] theorem shp82 : shp Tryd.prog 82 = some false := by kernel_rfl
@[simp] theorem szO82 : szO Tryd.prog 82 = some 1 := by kernel_rfl
@[simp] theorem slE82 : slE Tryd.prog 82 = some 81 := by kernel_rfl
@[simp] theorem shp84 : shp Tryd.prog 84 = some true := by kernel_rfl
@[simp] theorem szO84 : szO Tryd.prog 84 = some 3 := by kernel_rfl
@[simp] theorem fld0_84 : fld Tryd.prog 84 0 = some (0, 3) := by kernel_rfl
@[simp] theorem fld1_84 : fld Tryd.prog 84 1 = some (1, 3) := by kernel_rfl
@[simp] theorem fld2_84 : fld Tryd.prog 84 2 = some (2, 82) := by kernel_rfl
@[simp] theorem stF84 : stF Tryd.prog 84 = some [(0, 1), (1, 1), (2, 1)] := by kernel_rfl
@[simp] theorem zrO84 : zrO Tryd.prog 84 = some (Value.agg #[.int .i64 0, .int .i64 0, .slice none 0 0]) := by kernel_rfl
@[simp] theorem shp94 : shp Tryd.prog 94 = some true := by kernel_rfl
@[simp] theorem szO94 : szO Tryd.prog 94 = some 2 := by kernel_rfl
@[simp] theorem fld0_94 : fld Tryd.prog 94 0 = some (0, 3) := by kernel_rfl
@[simp] theorem fld1_94 : fld Tryd.prog 94 1 = some (1, 31) := by kernel_rfl
@[simp] theorem stF94 : stF Tryd.prog 94 = some [(0, 1), (1, 1)] := by kernel_rfl
@[simp] theorem byO94 : byO Tryd.prog 94 = some 32 := by kernel_rfl
@[simp] theorem zrO94 : zrO Tryd.prog 94 = some (Value.agg #[.int .i64 0, .slice none 0 0]) := by kernel_rfl
@[simp] theorem mpE129 : mpE Tryd.prog 129 = some 28 := by kernel_rfl
@[simp] theorem arE142 : arE Tryd.prog 142 = some (64, 5) := by kernel_rfl
@[simp] theorem fnOK4 : fnOK Tryd.prog 4 = true := by kernel_rfl
@[simp] theorem fnOK5 : fnOK Tryd.prog 5 = true := by kernel_rfl
@[simp] theorem fnOK6 : fnOK Tryd.prog 6 = true := by kernel_rfl
@[simp] theorem fnOK7 : fnOK Tryd.prog 7 = true := by kernel_rfl
@[simp] theorem fnOK8 : fnOK Tryd.prog 8 = true := by kernel_rfl
@[simp] theorem fnOK9 : fnOK Tryd.prog 9 = true := by kernel_rfl
@[simp] theorem fnOK10 : fnOK Tryd.prog 10 = true := by kernel_rfl
@[simp] theorem fnOK11 : fnOK Tryd.prog 11 = true := by kernel_rfl
@[simp] theorem fnOK12 : fnOK Tryd.prog 12 = true := by kernel_rfl
@[simp] theorem fnOK13 : fnOK Tryd.prog 13 = true := by kernel_rfl
@[simp] theorem fnOK14 : fnOK Tryd.prog 14 = true := by kernel_rfl
@[simp] theorem fnOK15 : fnOK Tryd.prog 15 = true := by kernel_rfl
@[simp] theorem fnOK16 : fnOK Tryd.prog 16 = true := by kernel_rfl
@[simp] theorem fnOK17 : fnOK Tryd.prog 17 = true := by kernel_rfl
@[simp] theorem fnOK18 : fnOK Tryd.prog 18 = true := by kernel_rfl
@[simp] theorem fnOK19 : fnOK Tryd.prog 19 = true := by kernel_rfl
@[simp] theorem fnOK20 : fnOK Tryd.prog 20 = true := by kernel_rfl
@[simp] theorem fnOK21 : fnOK Tryd.prog 21 = true := by kernel_rfl
@[simp] theorem fnOK22 : fnOK Tryd.prog 22 = true := by kernel_rfl
@[simp] theorem fnOK25 : fnOK Tryd.prog 25 = true := by kernel_rfl
@[simp] theorem fnOK26 : fnOK Tryd.prog 26 = true := by kernel_rfl
@[simp] theorem fnOK27 : fnOK Tryd.prog 27 = true := by kernel_rfl
@[simp] theorem fnOK28 : fnOK Tryd.prog 28 = true := by kernel_rfl
@[simp] theorem fnOK29 : fnOK Tryd.prog 29 = true := by kernel_rfl
@[simp] theorem fnOK30 : fnOK Tryd.prog 30 = true := by kernel_rfl
@[simp] theorem fnOK31 : fnOK Tryd.prog 31 = true := by kernel_rfl
@[simp] theorem fnOK32 : fnOK Tryd.prog 32 = true := by kernel_rfl
@[simp] theorem fnOK33 : fnOK Tryd.prog 33 = true := by kernel_rfl
@[simp] theorem fnOK34 : fnOK Tryd.prog 34 = true := by kernel_rfl
@[simp] theorem fnOK35 : fnOK Tryd.prog 35 = true := by kernel_rfl
@[simp] theorem fnOK36 : fnOK Tryd.prog 36 = true := by kernel_rfl
@[simp] theorem fnOK37 : fnOK Tryd.prog 37 = true := by kernel_rfl
@[simp] theorem fnOK38 : fnOK Tryd.prog 38 = true := by kernel_rfl
@[simp] theorem fnOK39 : fnOK Tryd.prog 39 = true := by kernel_rfl
@[simp] theorem fnOK40 : fnOK Tryd.prog 40 = true := by kernel_rfl
@[simp] theorem fnOK41 : fnOK Tryd.prog 41 = true := by kernel_rfl
@[simp] theorem fnOK42 : fnOK Tryd.prog 42 = true := by kernel_rfl
@[simp] theorem fnOK54 : fnOK Tryd.prog 54 = true := by kernel_rfl
@[simp] theorem fnOK55 : fnOK Tryd.prog 55 = true := by kernel_rfl
@[simp] theorem fnOK56 : fnOK Tryd.prog 56 = true := by kernel_rfl
@[simp] theorem fnOK57 : fnOK Tryd.prog 57 = true := by kernel_rfl
@[simp] theorem fnOK58 : fnOK Tryd.prog 58 = true := by kernel_rfl
@[simp] theorem fnOK59 : fnOK Tryd.prog 59 = true := by kernel_rfl
@[simp] theorem fnOK60 : fnOK Tryd.prog 60 = true := by kernel_rfl
@[simp] theorem fnOK61 : fnOK Tryd.prog 61 = true := by kernel_rfl
@[simp] theorem fnOK62 : fnOK Tryd.prog 62 = true := by kernel_rfl
@[simp] theorem fnOK63 : fnOK Tryd.prog 63 = true := by kernel_rfl
@[simp] theorem fnOK64 : fnOK Tryd.prog 64 = true := by kernel_rfl
@[simp] theorem fnOK65 : fnOK Tryd.prog 65 = true := by kernel_rfl
@[simp] theorem fnOK66 : fnOK Tryd.prog 66 = true := by kernel_rfl
@[simp] theorem fnOK67 : fnOK Tryd.prog 67 = true := by kernel_rfl
@[simp] theorem fnOK68 : fnOK Tryd.prog 68 = true := by kernel_rfl
@[simp] theorem fnOK69 : fnOK Tryd.prog 69 = true := by kernel_rfl
@[simp] theorem fnOK70 : fnOK Tryd.prog 70 = true := by kernel_rfl
@[simp] theorem fnOK71 : fnOK Tryd.prog 71 = true := by kernel_rfl
@[simp] theorem fnOK72 : fnOK Tryd.prog 72 = true := by kernel_rfl
@[simp] theorem fnOK73 : fnOK Tryd.prog 73 = true := by kernel_rfl
@[simp] theorem fnOK74 : fnOK Tryd.prog 74 = true := by kernel_rfl
@[simp] theorem fnOK75 : fnOK Tryd.prog 75 = true := by kernel_rfl
@[simp] theorem fnOK76 : fnOK Tryd.prog 76 = true := by kernel_rfl
@[simp] theorem fnOK83 : fnOK Tryd.prog 83 = true := by kernel_rfl
@[simp] theorem fnOK84 : fnOK Tryd.prog 84 = true := by kernel_rfl
@[simp] theorem fnOK85 : fnOK Tryd.prog 85 = true := by kernel_rfl
@[simp] theorem fnOK86 : fnOK Tryd.prog 86 = true := by kernel_rfl
@[simp] theorem fnOK87 : fnOK Tryd.prog 87 = true := by kernel_rfl
@[simp] theorem fnOK88 : fnOK Tryd.prog 88 = true := by kernel_rfl
@[simp] theorem fnOK89 : fnOK Tryd.prog 89 = true := by kernel_rfl
@[simp] theorem fnOK90 : fnOK Tryd.prog 90 = true := by kernel_rfl
@[simp] theorem fnOK91 : fnOK Tryd.prog 91 = true := by kernel_rfl
@[simp] theorem fnOK93 : fnOK Tryd.prog 93 = true := by kernel_rfl
@[simp] theorem fnOK94 : fnOK Tryd.prog 94 = true := by kernel_rfl
@[simp] theorem fnOK95 : fnOK Tryd.prog 95 = true := by kernel_rfl
@[simp] theorem fnOK96 : fnOK Tryd.prog 96 = true := by kernel_rfl
@[simp] theorem fnOK97 : fnOK Tryd.prog 97 = true := by kernel_rfl
@[simp] theorem mixed : Tryd.prog.follows .mixedOrders = true := by kernel_rfl
end Go.Proofs

set_option linter.unusedSimpArgs false
namespace Go.Tr
open Go
/-! ### arguments that came in, as plain data -/
inductive Ty where
  | int (k : IntKind)
  | bool
  | str
  | sl (e : Ty)
  | st (fs : List Ty)
mutual
def Ty.size : Ty → Nat
  | .st fs => Ty.sizes fs
  | _ => 1
def Ty.sizes : List Ty → Nat
  | [] => 0
  | f :: fs => f.size + Ty.sizes fs
end
mutual
def Ty.has : Ty → List D → Prop
  | .int k, ds => ∃ n, ds = [.int k n] ∧ (Lit.int k n).wf = true
  | .bool, ds => ∃ b, ds = [.bool b]
  | .str, ds => ∃ s : ByteArray, ds = [.str s] ∧ s.size ≤ maxLen
  | .sl e, ds => ∃ xs, ds = [.sl xs] ∧ xs.length ≤ maxLen ∧ ∀ x ∈ xs, e.has x
  | .st fs, ds => Ty.hass fs ds
def Ty.hass : List Ty → List D → Prop
  | [], ds => ds = []
  | f :: fs, ds => ∃ a b, ds = a ++ b ∧ f.has a ∧ Ty.hass fs b
end
mutual
/-- the type t is of the form T -/
def tyB (P : Program) : Ty → TypeId → Bool
  | .int k, t => match P.underlying t with | some (.int k') => decide (k' = k) | _ => false
  | .bool, t => match P.underlying t with | some .bool => true | _ => false
  | .str, t => match P.underlying t with | some .string => true | _ => false
  | .sl e, t => match P.underlying t with | some (.slice u) => tyB P e u && (decide (P.cellsOf u = e.size) && decide (0 < e.size)) | _ => false
  | .st fs, t => match P.underlying t with | some (.struct a) => tyFs P fs a.toList 0 && decide (P.cellsOf t = Ty.sizes fs) | _ => false
def tyFs (P : Program) : List Ty → List Field → Nat → Bool
  | [], [], _ => true
  | T :: fs, f :: l, o => decide (f.offset = o) && (decide (P.cellsOf f.type = T.size) && (tyB P T f.type && tyFs P fs l (o + T.size)))
  | _, _, _ => false
end
mutual
theorem Ty.has_len : ∀ (T : Ty) {ds : List D}, T.has ds → ds.length = T.size
  | .int k, ds, h => by simp only [Ty.has] at h; obtain ⟨n, rfl, _⟩ := h; simp [Ty.size]
  | .bool, ds, h => by simp only [Ty.has] at h; obtain ⟨n, rfl⟩ := h; simp [Ty.size]
  | .str, ds, h => by simp only [Ty.has] at h; obtain ⟨n, rfl, _⟩ := h; simp [Ty.size]
  | .sl e, ds, h => by simp only [Ty.has] at h; obtain ⟨n, rfl, _⟩ := h; simp [Ty.size]
  | .st fs, ds, h => by simp only [Ty.has] at h; simp only [Ty.size]; exact Ty.hass_len fs h
theorem Ty.hass_len : ∀ (fs : List Ty) {ds : List D}, Ty.hass fs ds → ds.length = Ty.sizes fs
  | [], ds, h => by simp only [Ty.hass] at h; subst h; simp [Ty.sizes]
  | f :: fs, ds, h => by
    simp only [Ty.hass] at h
    obtain ⟨a, b, rfl, h1, h2⟩ := h
    simp only [Ty.sizes, List.length_append, Ty.has_len f h1, Ty.hass_len fs h2]
end
theorem RelVs.app {E : En} : ∀ {a b : List TV} {us vs : List Value}, RelVs E a us → RelVs E b vs → RelVs E (a ++ b) (us ++ vs)
  | [], b, us, vs, h, g => by simp only [RelVs] at h; subst h; simpa using g
  | t :: a, b, us, vs, h, g => by
    simp only [RelVs] at h
    obtain ⟨u, us', rfl, h1, h2⟩ := h
    simp only [List.cons_append, RelVs]
    exact ⟨u, _, rfl, h1, RelVs.app h2 g⟩
theorem add_mk (b o m : Nat) : (⟨b, o, none⟩ : Addr).add m = ⟨b, o + m, none⟩ := by
  unfold Addr.add
  split
  · rename_i h; subst h; rfl
  · rfl
theorem cell_lt {w : World} {a : Addr} {v : Value} (h : w.cell? a = some v) : a.block < w.heap.size ∧ a.spot = none := by
  simp only [World.cell?] at h
  split at h
  · rename_i hh
    refine ⟨(Array.getElem?_eq_some_iff.1 hh).1, ?_⟩
    cases hs : a.spot with
    | none => rfl
    | some s => simp [hs] at h
  · simp at h
theorem cells_rep {w : World} {b : Nat} : ∀ {ds : List D} {vs : List Value} {o : Nat}, RelVs (inE w) (ds.map .d) vs → (∀ i, i < ds.length → w.cell? ⟨b, o + i, none⟩ = vs[i]?) → RepCells (inE w) b o ds
  | [], _, _, _, _ => by simp only [RepCells]
  | d :: ds, vs, o, h, hc => by
    simp only [List.map_cons, RelVs] at h
    obtain ⟨u, vs', rfl, h1, h2⟩ := h
    have h0 := hc 0 (by simp)
    simp only [Nat.add_zero, List.getElem?_cons_zero] at h0
    simp only [RepCells]
    refine ⟨⟨(cell_lt h0).1, u, h0, by simpa only [RelV] using h1⟩, cells_rep h2 fun i hi => ?_⟩
    have := hc (i + 1) (by simp; omega)
    rw [show o + (i + 1) = o + 1 + i by omega] at this
    simpa using this
theorem rows_build {E : En} {b k : Nat} {p : List D → Prop} : ∀ (n : Nat) {o : Nat}, (∀ i, i < n → ∃ ds, p ds ∧ ds.length = k ∧ RepCells E b (o + i * k) ds) → ∃ xs : List (List D), xs.length = n ∧ (∀ x ∈ xs, p x) ∧ RepRows E b k o xs
  | 0, o, _ => ⟨[], rfl, by simp, by simp only [RepRows]⟩
  | n + 1, o, h => by
    obtain ⟨d, h1, h2, h3⟩ := h 0 (by omega)
    obtain ⟨xs, g1, g2, g3⟩ := rows_build (p := p) n (o := o + k) fun i hi => by
      obtain ⟨ds, k1, k2, k3⟩ := h (i + 1) (by omega)
      refine ⟨ds, k1, k2, ?_⟩
      rw [show o + k + i * k = o + (i + 1) * k by rw [Nat.add_mul]; omega]
      exact k3
    refine ⟨d :: xs, by simp [g1], by simpa using ⟨h1, g2⟩, ?_⟩
    simp only [RepRows]
    exact ⟨h2, by simpa using h3, g3⟩
section
variable {H : Type} {enc : TypeId × Value → H} {P : Program} {w : World} {sp : Nat → Bool} {held : Bool}
mutual
theorem trod_has : ∀ (T : Ty) {t : TypeId} {fuel : Nat} {cs : List Value} {x : DataW H × List MemPlace}, tyB P T t = true → DataW.trod enc P w 0 sp held fuel t cs = some x → ∃ ds, T.has ds ∧ RelVs (inE w) (ds.map .d) cs
  | .int k, t, fuel, cs, x, hT, h => by
    simp only [tyB] at hT
    split at hT
    · rename_i ht
      simp only [decide_eq_true_eq] at hT
      subst hT
      obtain ⟨n, rfl, _, hw⟩ := DataW.trod_int ht h
      exact ⟨[.int _ n], by simp only [Ty.has]; exact ⟨n, rfl, hw⟩, by simp [RelVs, RelV, Rep]⟩
    · simp at hT
  | .bool, t, fuel, cs, x, hT, h => by
    simp only [tyB] at hT
    split at hT
    · rename_i ht
      obtain ⟨n, rfl, _⟩ := DataW.trod_bool ht h
      exact ⟨[.bool n], by simp only [Ty.has]; exact ⟨n, rfl⟩, by simp [RelVs, RelV, Rep]⟩
    · simp at hT
  | .str, t, fuel, cs, x, hT, h => by
    simp only [tyB] at hT
    split at hT
    · rename_i ht
      obtain ⟨n, rfl, _, hw⟩ := DataW.trod_string ht h
      exact ⟨[.str n], by simp only [Ty.has]; exact ⟨n, rfl, hw⟩, by simp [RelVs, RelV, Rep]⟩
    · simp at hT
  | .sl e, t, fuel, cs, x, hT, h => by
    simp only [tyB] at hT
    split at hT
    · rename_i u ht
      simp only [Bool.and_eq_true, decide_eq_true_eq] at hT
      obtain ⟨hu, hk, hk0⟩ := hT
      rcases DataW.trod_slice ht h with ⟨rfl, _⟩ | ⟨a, len, cap, elems, rest, n, _, rfl, _, _, hl, hm, hlen, hel, _, _⟩
      · exact ⟨[.sl []], by simp only [Ty.has]; exact ⟨[], rfl, by simp, by simp⟩, by simp only [List.map_cons, List.map_nil, RelVs, RelV, Rep]; exact ⟨_, _, rfl, .inl ⟨rfl, _, _, rfl⟩, rfl⟩⟩
      · by_cases h0 : len = 0
        · subst h0
          exact ⟨[.sl []], by simp only [Ty.has]; exact ⟨[], rfl, by simp, by simp⟩, by simp only [List.map_cons, List.map_nil, RelVs, RelV, Rep]; exact ⟨_, _, rfl, .inl ⟨rfl, _, _, rfl⟩, rfl⟩⟩
        · have each : ∀ i, i < len → ∃ vs y, w.cells? 0 (a.add (i * P.cellsOf u)) (P.cellsOf u) = some vs ∧ DataW.trod enc P w 0 sp held n u vs = some y := fun i hi => by
            have h1 := hel i hi
            have h2 : elems[i]? = some elems[i] := List.getElem?_eq_getElem (by omega)
            rw [h2, Option.bind_eq_some_iff] at h1
            obtain ⟨vs, g1, g2⟩ := h1
            exact ⟨vs, _, g1, g2⟩
          have hspot : a.spot = none := by
            obtain ⟨vs, y, g1, _⟩ := each 0 (by omega)
            obtain ⟨_, g3, g4⟩ := World.cells?_some g1
            have g5 := g4 0 (by omega)
            have g6 : vs[0]? = some vs[0] := List.getElem?_eq_getElem (by omega)
            rw [g6] at g5
            simp only [Nat.zero_mul, Addr.add, if_true] at g5
            exact (cell_lt g5).2
          obtain ⟨b, o, s⟩ := a
          simp only at hspot
          subst hspot
          obtain ⟨xs, x1, x2, x3⟩ := rows_build (E := inE w) (b := b) (k := e.size) (p := e.has) len (o := o) fun i hi => by
            obtain ⟨vs, y, g1, g2⟩ := each i hi
            obtain ⟨ds, d1, d2⟩ := trod_has e hu g2
            obtain ⟨_, g3, g4⟩ := World.cells?_some g1
            refine ⟨ds, d1, e.has_len d1, cells_rep d2 fun j hj => ?_⟩
            rw [e.has_len d1] at hj
            have := g4 j (by omega)
            rw [add_mk, add_mk, hk] at this
            exact this
          exact ⟨[.sl xs], by simp only [Ty.has]; exact ⟨xs, rfl, by omega, x2⟩, by
            simp only [List.map_cons, List.map_nil, RelVs, RelV, Rep]
            exact ⟨_, _, rfl, .inr ⟨b, o, cap, e.size, by rw [x1], by omega, x3⟩, rfl⟩⟩
    · simp at hT
  | .st fs, t, fuel, cs, x, hT, h => by
    simp only [tyB] at hT
    split at hT
    · rename_i a ht
      simp only [Bool.and_eq_true, decide_eq_true_eq] at hT
      obtain ⟨hf, hs⟩ := hT
      obtain ⟨xs, n, _, _, hl, hlen, hel⟩ := DataW.trod_struct ht h
      obtain ⟨ds, d1, d2⟩ := trods_has fs (l := a.toList) (o := 0) (n := n) (cs := cs) hf (fun f hfm => by
        obtain ⟨i, hi⟩ := List.getElem?_of_mem hfm
        have hi' : a[i]? = some f := by simpa using hi
        have hlt : i < a.size := (Array.getElem?_eq_some_iff.1 hi').1
        exact ⟨xs[i], by rw [hel i f hi']; exact List.getElem?_eq_getElem (by omega)⟩)
      refine ⟨ds, by simpa only [Ty.has] using d1, ?_⟩
      rw [List.drop_zero, List.take_of_length_le (by omega)] at d2
      exact d2
    · simp at hT
theorem trods_has : ∀ (fs : List Ty) {l : List Field} {o n : Nat} {cs : List Value}, tyFs P fs l o = true → (∀ f ∈ l, ∃ x, DataW.trod enc P w 0 sp held n f.type ((cs.drop f.offset).take (P.cellsOf f.type)) = some x) →
    ∃ ds, Ty.hass fs ds ∧ RelVs (inE w) (ds.map .d) ((cs.drop o).take (Ty.sizes fs))
  | [], l, o, n, cs, hT, h => ⟨[], by simp only [Ty.hass], by simp [RelVs, Ty.sizes]⟩
  | T :: fs, [], o, n, cs, hT, h => by simp [tyFs] at hT
  | T :: fs, f :: l, o, n, cs, hT, h => by
    simp only [tyFs, Bool.and_eq_true, decide_eq_true_eq] at hT
    obtain ⟨ho, hk, hu, hr⟩ := hT
    obtain ⟨x, hx⟩ := h f (by simp)
    rw [ho, hk] at hx
    obtain ⟨d1, a1, a2⟩ := trod_has T hu hx
    obtain ⟨d2, b1, b2⟩ := trods_has fs (o := o + T.size) hr fun g hg => h g (by simp [hg])
    refine ⟨d1 ++ d2, by simp only [Ty.hass]; exact ⟨_, _, rfl, a1, b1⟩, ?_⟩
    rw [List.map_append, Ty.sizes, List.take_add, List.drop_drop]
    exact RelVs.app a2 b2
end
/-- how a parameter of a type is seen -/
def Ty.tv : Ty → List D → TV
  | .st _, ds => .agg (ds.map .d)
  | _, d :: _ => .d d
  | _, [] => .junk
theorem arg_rel (T : Ty) {t : TypeId} {r : Reach} {b0 : Nat} {v : Value} {d : DataW H} {ps : List MemPlace} (hT : tyB P T t = true) (hv : Value.okWide P w r b0 t v) (h : DataW.Trod enc P w 0 sp held t v d ps) :
    ∃ ds, T.has ds ∧ RelV (inE w) (T.tv ds) v := by
  obtain ⟨fuel, hf⟩ := h
  obtain ⟨ds, h1, h2⟩ := trod_has T hT hf
  refine ⟨ds, h1, ?_⟩
  cases T with
  | st fs =>
    simp only [tyB] at hT
    split at hT
    · rename_i a ht
      obtain ⟨cs, rfl, _⟩ := WideShapes.okWide_struct ht hv
      simp only [Ty.tv, RelV]
      exact ⟨cs, rfl, by simpa [Value.cells] using h2⟩
    · simp at hT
  | int k =>
    simp only [tyB] at hT
    split at hT
    · rename_i ht
      obtain ⟨n, rfl⟩ := WideShapes.okWide_int ht hv
      simp only [Ty.has] at h1
      obtain ⟨m, rfl, _⟩ := h1
      simp [Value.cells, RelVs] at h2
      simpa [Ty.tv] using h2
    · simp at hT
  | bool =>
    simp only [tyB] at hT
    split at hT
    · rename_i ht
      obtain ⟨n, rfl⟩ := WideShapes.okWide_bool ht hv
      simp only [Ty.has] at h1
      obtain ⟨m, rfl⟩ := h1
      simp [Value.cells, RelVs] at h2
      simpa [Ty.tv] using h2
    · simp at hT
  | str =>
    simp only [tyB] at hT
    split at hT
    · rename_i ht
      obtain ⟨n, rfl⟩ := WideShapes.okWide_string ht hv
      simp only [Ty.has] at h1
      obtain ⟨m, rfl, _⟩ := h1
      simp [Value.cells, RelVs] at h2
      simpa [Ty.tv] using h2
    · simp at hT
  | sl e =>
    simp only [tyB] at hT
    split at hT
    · rename_i ht
      obtain ⟨a, len, cap, rfl⟩ := WideShapes.okWide_slice ht hv
      simp only [Ty.has] at h1
      obtain ⟨m, rfl, _⟩ := h1
      simp [Value.cells, RelVs] at h2
      simpa [Ty.tv] using h2
    · simp at hT
end
end Go.Tr

set_option linter.unusedSimpArgs false
namespace Go.Tr
open Go
/-- a law that returns true, as the row's step asks for it -/
theorem Contract.true {P : Program} {f : FuncId} {args : List TV} {ro : List (Nat × It)} (c : Contract P f args [] (.d (.bool true)) [] ro) {w : World} (hg : GlobW w) {us : List Value} (h : RelVs (inE w) args us) :
    Calls P f us.toArray w fun e w' => e = .returned (.bool true) ∧ RowKit.Below w.heap.size w w' :=
  (c.law hg h).mono fun e w' ⟨u, E', he, hr, hb⟩ => by
    simp only [RelV, Rep] at hr
    subst hr
    exact ⟨he, hb⟩
theorem wf_u64 {n : Int} (h : (Lit.int .u64 n).wf = true) : ∃ B : BitVec 64, n = tn B := by
  simp only [Lit.wf, Bool.and_eq_true, decide_eq_true_eq] at h
  have m1 : IntKind.u64.min = 0 := by decide
  have m2 : IntKind.u64.max = 18446744073709551615 := by decide
  refine ⟨BitVec.ofNat 64 n.toNat, ?_⟩
  simp only [tn, BitVec.toNat_ofNat]
  omega
end Go.Tr
