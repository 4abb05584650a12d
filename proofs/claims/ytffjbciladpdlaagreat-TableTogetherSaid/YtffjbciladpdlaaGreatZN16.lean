/-
  What functions of the program compute, stated as contracts over plain data; the conditions of each stand in its own statement.
-/
import Derived.Test.YtffjbciladpdlaaGreatZN15
import Derived.Lib.SlicesCompact
set_option linter.unusedSimpArgs false
set_option linter.unusedVariables false
namespace Go.Tr
open Go
section
variable {A : Actv}
theorem InvE.rowSee {t : S} {a : Act} {E : En} {id e k : Nat} {es es' : List (List TV)} {sh : Bool} (hi : InvE A t a E) (ht : t (.o id) = .row e k es sh) (hl : es'.length = es.length) (hrel : ∀ us, RowRel E us k 0 es → RowRel E us k 0 es') :
  InvE A (upd t (.o id) (.row e k es' sh)) a E := by
 refine ⟨⟨fun q hq => ?_, hi.h.frees, hi.h.inj, hi.h.size, hi.h.stsz, fun b o h1 q h2 => ?_, hi.h.gl⟩, hi.fr, fun j tv hj => ?_, hi.defers, hi.size⟩
 ·by_cases eq : q = .o id
  ·subst eq
   have h := hi.h.item (.o id) hq
   rw [ht] at h
   simp only [upd, if_true]
   obtain ⟨h1, id', v, us, h2, h3, h4, h5⟩ := h
   simp only [Pl.o.injEq] at h2; subst h2
   exact ⟨h1, id, v, us, rfl, by rw [hl]; exact h3, by rw [hl]; exact h4, hrel us h5⟩
  ·simp only [upd, if_neg eq]; exact hi.h.item q hq
 ·obtain ⟨e2, k2, es2, h3, h4⟩ := hi.h.sep b o h1 q h2
  by_cases eq : q = .o id
  ·subst eq
   rw [ht] at h3
   simp only [It.row.injEq] at h3
   obtain ⟨rfl, rfl, rfl, rfl⟩ := h3
   exact ⟨e, k, es', by simp [upd], by rw [hl]; exact h4⟩
  ·exact ⟨e2, k2, es2, by simp only [upd, if_neg eq]; exact h3, h4⟩
 ·simp only [upd, reduceCtorEq, if_false] at hj
  exact hi.sl j tv hj
theorem GS.seeRow {t : S} {id0 e0 k0 : Nat} {es0 : List (List TV)} {sh0 : Bool} {i j : Nat} {r : List TV} {id n e k : Nat} {es : List (List TV)} {sh : Bool} {xs : List (List D)} (h0 : t (.o id0) = .row e0 k0 es0 sh0) (hne : id0 ≠ id)
  (hr : es0[i]? = some r) (hj : r[j]? = some (.oref id n)) (ht : t (.o id) = .row e k es sh) (hn : n = es.length) (hx : toDss es = some xs) :
  GS A t (upd (upd t (.o id) (.row e k es true)) (.o id0) (.row e0 k0 (es0.set i (r.set j (.d (.sl xs)))) sh0)) := fun a w ⟨E, hw, hi⟩ => by
 subst hn
 obtain ⟨E', hw', x, hb, hv, hi', hr', _⟩ := hi.freeze ht hx
 have hil : i < es0.length := (List.getElem?_eq_some_iff.1 hr).1
 refine ⟨E', hw'.trans hw, hi'.rowSee (es := es0) (by simp only [upd, Pl.o.injEq, if_neg hne]; exact h0) (by simp) fun us hrel => RowRel.of_get fun i' el hel => ?_⟩
 rw [listSet_get hil] at hel
 by_cases ei : i' = i
 ·subst ei
  rw [if_pos rfl] at hel
  simp only [Option.some.injEq] at hel
  subst hel
  obtain ⟨g1, g2⟩ := hrel.get hr
  have hjl : j < r.length := (List.getElem?_eq_some_iff.1 hj).1
  refine ⟨by simpa using g1, CellsRel.of_get fun m tv hm => ?_⟩
  rw [listSet_get hjl] at hm
  by_cases em : m = j
  ·subst em
   rw [if_pos rfl] at hm
   simp only [Option.some.injEq] at hm
   subst hm
   obtain ⟨u, k1, k2, k3⟩ := g2.get hj
   refine ⟨u, k1, k2, ?_⟩
   simp only [RelV] at k3 ⊢
   refine hr' u ?_
   simp only [RelV]
   rw [hv] at k3
   exact k3
  ·rw [if_neg em] at hm
   exact g2.get hm
 ·rw [if_neg ei] at hel
  exact hrel.get hel
theorem GS.seeRow' {l l' : List (Pl × It)} (id0 i j id : Nat) {e0 k0 : Nat} {es0 : List (List TV)} {sh0 : Bool} {r : List TV} {n e k : Nat} {es : List (List TV)} {sh : Bool} {xs : List (List D)} (h0 : look l (.o id0) = .row e0 k0 es0 sh0) (hne : id0 ≠ id)
  (hr : es0[i]? = some r) (hj : r[j]? = some (.oref id n)) (ht : look l (.o id) = .row e k es sh) (hn : n = es.length) (hx : toDss es = some xs)
  (h : Sub (look (put1 (.o id0) (.row e0 k0 (es0.set i (r.set j (.d (.sl xs)))) sh0) (put1 (.o id) (.row e k es true) l))) l' ∧ xIds l' = xIds (put1 (.o id0) (.row e0 k0 (es0.set i (r.set j (.d (.sl xs)))) sh0) (put1 (.o id) (.row e k es true) l))) :
  GS A (look l) (look l') := by
 have := GS.seeRow (A := A) h0 hne hr hj ht hn hx
 rw [upd_look, upd_look] at this
 exact this.trans (GS.forget h.1 h.2)
theorem Fin.seeRow {P : Program} {A : Actv} {fn : Func} {rv : TV} {xo : List It} {ro : List (Nat × It)} {l : List (Pl × It)} (id0 i j id : Nat) {e0 k0 : Nat} {es0 : List (List TV)} {sh0 : Bool} {r : List TV} {n e k : Nat} {es : List (List TV)} {sh : Bool} {xs : List (List D)} (h0 : look l (.o id0) = .row e0 k0 es0 sh0) (hne : id0 ≠ id)
  (hr : es0[i]? = some r) (hj : r[j]? = some (.oref id n)) (ht : look l (.o id) = .row e k es sh) (hn : n = es.length) (hx : toDss es = some xs)
  (h : Fin P A fn rv xo ro (look (put1 (.o id0) (.row e0 k0 (es0.set i (r.set j (.d (.sl xs)))) sh0) (put1 (.o id) (.row e k es true) l)))) : Fin P A fn rv xo ro (look l) := by
 have := GS.seeRow (A := A) h0 hne hr hj ht hn hx
 rw [upd_look, upd_look] at this
 exact h.ghost this
def renN (a b k : Nat) : Nat := if k = a then b else k
def renP (a b : Nat) : Pl → Pl
 | .o k => .o (renN a b k)
 | p => p
mutual
def TV.ren (a b : Nat) : TV → TV
 | .agg vs => .agg (TV.rens a b vs)
 | .tup vs => .tup (TV.rens a b vs)
 | .clo f vs => .clo f (TV.rens a b vs)
 | .oref id n => .oref (renN a b id) n
 | .eptr id n i q => .eptr (renN a b id) n i q
 | .mref id => .mref (renN a b id)
 | .osl id n j => .osl (renN a b id) n j
 | .ptr p q => .ptr (renP a b p) q
 | v => v
def TV.rens (a b : Nat) : List TV → List TV
 | [] => []
 | v :: vs => v.ren a b :: TV.rens a b vs
end
def renI (a b : Nat) : It → It
 | .v t => .v (t.ren a b)
 | .box cs => .box (TV.rens a b cs)
 | .row e k es sh => .row e k (es.map (TV.rens a b)) sh
 | .que e k es => .que e k (es.map (TV.rens a b))
 | .mpk es c pd s => .mpk (es.map fun x => (x.1, x.2.ren a b)) c pd s
 | .mit m s left cur => .mit (if m = a then b else m) s left cur
 | .mpz es s => .mpz (es.map fun x => (x.1, x.2.ren a b)) s
 | i => i
def En.ren (E : En) (a b : Nat) : En :=
 { E with blk := fun p => match p with | .o k => if k = b then E.blk (.o a) else if k = a then none else E.blk (.o k) | p => E.blk p,
          val := fun k => if k = b then E.val a else if k = a then none else E.val k }
mutual
theorem ren_rel {E : En} {a b : Nat} (hab : a ≠ b) (hb : E.blk (.o b) = none) (hv : E.val b = none) : ∀ {v : TV} {u : Value}, RelV E v u → RelV (E.ren a b) (v.ren a b) u
 | .junk, u, _ => by simp only [TV.ren, RelV]
 | .d x, u, h => by simp only [TV.ren, RelV] at h ⊢; exact Rep.ext (E := E) (E' := E.ren a b) ⟨fun _ _ h => h, fun _ _ _ => rfl⟩ x u h
 | .c v, u, h => by simp only [TV.ren, RelV] at h ⊢; exact h
 | .agg vs, u, h => by
   simp only [TV.ren, RelV] at h ⊢
   obtain ⟨us, hu, h⟩ := h
   exact ⟨us, hu, rens_rel hab hb hv h⟩
 | .tup vs, u, h => by
   simp only [TV.ren, RelV] at h ⊢
   obtain ⟨us, hu, h⟩ := h
   exact ⟨us, hu, rens_rel hab hb hv h⟩
 | .oref id n, u, h => by
   simp only [TV.ren, RelV] at h ⊢
   obtain ⟨h1, k, c, v, h2, h3⟩ := h
   have hne : id ≠ b := fun e => by subst e; rw [hv] at h2; simp at h2
   refine ⟨h1, k, c, v, ?_, h3⟩
   by_cases e : id = a
   ·subst e; simp only [renN, En.ren, if_true]; exact h2
   ·simp only [renN, En.ren, if_neg e, if_neg hne]; exact h2
 | .ptr (.o id) q, u, h => by
   simp only [TV.ren, renP, RelV] at h ⊢
   obtain ⟨b', h1, h2⟩ := h
   have hne : id ≠ b := fun e => by subst e; rw [hb] at h1; simp at h1
   refine ⟨b', ?_, h2⟩
   by_cases e : id = a
   ·subst e; simp only [renN, En.ren, if_true]; exact h1
   ·simp only [renN, En.ren, if_neg e, if_neg hne]; exact h1
 | .ptr (.x i) q, u, h => by simp only [TV.ren, renP, RelV] at h ⊢; exact h
 | .ptr (.s i) q, u, h => by simp only [TV.ren, renP, RelV] at h ⊢; exact h
 | .ep e q, u, h => by
   simp only [TV.ren, RelV] at h ⊢
   obtain ⟨b', o, hu, hc⟩ := h
   exact ⟨b', o, hu, RepCells.ext (E := E) (E' := E.ren a b) ⟨fun _ _ h => h, fun _ _ _ => rfl⟩ b' o e hc⟩
 | .eptr id n i q, u, h => by
   simp only [TV.ren, RelV] at h ⊢
   obtain ⟨h1, k, c, v, h2, h3⟩ := h
   have hne : id ≠ b := fun e => by subst e; rw [hv] at h2; simp at h2
   refine ⟨h1, k, c, v, ?_, h3⟩
   by_cases e : id = a
   ·subst e; simp only [renN, En.ren, if_true]; exact h2
   ·simp only [renN, En.ren, if_neg e, if_neg hne]; exact h2
 | .osl id n i, u, h => by
   simp only [TV.ren, RelV] at h ⊢
   obtain ⟨h1, k, c, v, h2, h3⟩ := h
   have hne : id ≠ b := fun e => by subst e; rw [hv] at h2; simp at h2
   refine ⟨h1, k, c, v, ?_, h3⟩
   by_cases e : id = a
   ·subst e; simp only [renN, En.ren, if_true]; exact h2
   ·simp only [renN, En.ren, if_neg e, if_neg hne]; exact h2
 | .mref id, u, h => by
   simp only [TV.ren, RelV] at h ⊢
   obtain ⟨b', h1, h2⟩ := h
   have hne : id ≠ b := fun e => by subst e; rw [hb] at h1; simp at h1
   refine ⟨b', ?_, h2⟩
   by_cases e : id = a
   ·subst e; simp only [renN, En.ren, if_true]; exact h1
   ·simp only [renN, En.ren, if_neg e, if_neg hne]; exact h1
 | .sx xs, u, h => by
   simp only [TV.ren, RelV] at h ⊢
   exact ⟨Rep.ext (E := E) (E' := E.ren a b) ⟨fun _ _ h => h, fun _ _ _ => rfl⟩ (.sl xs) u h.1, h.2⟩
 | .clo f vs, u, h => by
   simp only [TV.ren, RelV] at h ⊢
   obtain ⟨us, hu, h⟩ := h
   exact ⟨us, hu, rens_rel hab hb hv h⟩
theorem rens_rel {E : En} {a b : Nat} (hab : a ≠ b) (hb : E.blk (.o b) = none) (hv : E.val b = none) : ∀ {vs : List TV} {us : List Value}, RelVs E vs us → RelVs (E.ren a b) (TV.rens a b vs) us
 | [], us, h => by simpa only [TV.rens, RelVs] using h
 | v :: vs, us, h => by
   simp only [TV.rens, RelVs] at h ⊢
   obtain ⟨u, us', hu, h1, h2⟩ := h
   exact ⟨u, us', hu, ren_rel hab hb hv h1, rens_rel hab hb hv h2⟩
end
theorem rens_length {a b : Nat} : ∀ vs : List TV, (TV.rens a b vs).length = vs.length
 | [] => by simp only [TV.rens]
 | v :: vs => by simp only [TV.rens, List.length_cons, rens_length vs]
theorem renCells {E : En} {a b : Nat} (hab : a ≠ b) (hb : E.blk (.o b) = none) (hv : E.val b = none) {us : List Value} : ∀ {o : Nat} {vs : List TV}, CellsRel E us o vs → CellsRel (E.ren a b) us o (TV.rens a b vs)
 | _, [], _ => by simp only [TV.rens]; trivial
 | _, _ :: _, ⟨⟨u, h1, h2, h3⟩, r⟩ => by simp only [TV.rens]; exact ⟨⟨u, h1, h2, ren_rel hab hb hv h3⟩, renCells hab hb hv r⟩
theorem renRow {E : En} {a b : Nat} (hab : a ≠ b) (hb : E.blk (.o b) = none) (hv : E.val b = none) {us : List Value} {k : Nat} : ∀ {o : Nat} {es : List (List TV)}, RowRel E us k o es → RowRel (E.ren a b) us k o (es.map (TV.rens a b))
 | _, [], _ => trivial
 | _, _ :: _, ⟨h1, h2, r⟩ => ⟨(rens_length _).trans h1, renCells hab hb hv h2, renRow hab hb hv r⟩
theorem renK {E : En} {a b : Nat} (hab : a ≠ b) (hb : E.blk (.o b) = none) (hv : E.val b = none) : ∀ {es : List (List Int × TV)} {l : List MapEntry}, KRel E es l → KRel (E.ren a b) (es.map fun x => (x.1, x.2.ren a b)) l
 | [], _, h => h
 | _ :: _, _, ⟨e, l', rfl, h1, h2, h3⟩ => ⟨e, l', rfl, h1, ren_rel hab hb hv h2, renK hab hb hv h3⟩
theorem ren_own {E : En} {a b : Nat} (hab : a ≠ b) (k : Nat) : (E.ren a b).own (.o k) = if k = b then E.own (.o a) else if k = a then none else E.own (.o k) := by
 by_cases e1 : k = b
 ·subst e1; simp [En.own, En.ren]
 ·by_cases e2 : k = a
  ·subst e2; simp [En.own, En.ren, e1]
  ·simp [En.own, En.ren, e1, e2]
theorem ren_item {E : En} {a b : Nat} (hab : a ≠ b) (hb : E.blk (.o b) = none) (hv : E.val b = none) {p p' : Pl} {i : It} (h : ItemOK E p i) (hp : ∀ k, p ≠ .s k)
  (h1 : (E.ren a b).blk p' = E.blk p) (h2 : (∀ k, p' = .o k → (∃ j, p = .o j ∧ (E.ren a b).val k = E.val j)) ∧ ∀ j, p = .o j → ∃ k, p' = .o k) : ItemOK (E.ren a b) p' (renI a b i) := by
 cases i with
 | none =>
   intro k e
   obtain ⟨j, g1, g2⟩ := h2.1 k e
   rw [h1, g2]
   exact h j g1
 | v t =>
   show (E.ren a b).own p' = none
   have h : E.own p = none := h
   cases p' with
   | o k =>
     obtain ⟨j, rfl, g2⟩ := h2.1 k rfl
     simp only [En.own] at h ⊢
     rw [h1, g2]
     exact h
   | s k => cases p with
     | o j => obtain ⟨k', e⟩ := h2.2 j rfl; simp at e
     | s j => simp only [En.own] at h ⊢; rw [h1]; exact h
     | x j => simp only [En.own] at h ⊢; rw [h1]; exact h
   | x k => cases p with
     | o j => obtain ⟨k', e⟩ := h2.2 j rfl; simp at e
     | s j => simp only [En.own] at h ⊢; rw [h1]; exact h
     | x j => simp only [En.own] at h ⊢; rw [h1]; exact h
 | box cs =>
   obtain ⟨h0, b', ty, us, g1, g2, g3, g4⟩ := h
   refine ⟨fun k e => ?_, b', ty, us, h1.trans g1, g2, by rw [rens_length]; exact g3, renCells hab hb hv g4⟩
   obtain ⟨j, k1, k2⟩ := h2.1 k e
   rw [k2]; exact h0 j k1
 | row e k es sh =>
   obtain ⟨h0, id, v, us, rfl, g2, g3, g4⟩ := h
   obtain ⟨k', e'⟩ := h2.2 id rfl
   obtain ⟨j, k1, k2⟩ := h2.1 k' e'
   simp only [Pl.o.injEq] at k1; subst k1
   exact ⟨h1.trans h0, k', v, us, e', by rw [k2, List.length_map]; exact g2, by rw [List.length_map]; exact g3, renRow hab hb hv g4⟩
 | que e k es =>
   obtain ⟨h0, id, v, us, rfl, g2, g3, g4⟩ := h
   obtain ⟨k', e'⟩ := h2.2 id rfl
   obtain ⟨j, k1, k2⟩ := h2.1 k' e'
   simp only [Pl.o.injEq] at k1; subst k1
   exact ⟨h1.trans h0, k', v, us, e', by rw [k2, List.length_map]; exact g2, by rw [List.length_map]; exact g3, renRow hab hb hv g4⟩
 | mp es =>
   obtain ⟨h0, b', l, clock, g1, g2, g3, g4⟩ := h
   refine ⟨fun k e => ?_, b', l, clock, h1.trans g1, g2, MapRel.ext (E := E) (E' := E.ren a b) ⟨fun _ _ h => h, fun _ _ _ => rfl⟩ g3, g4⟩
   obtain ⟨j, k1, k2⟩ := h2.1 k e
   rw [k2]; exact h0 j k1
 | mpk es c pd s =>
   obtain ⟨id, b', l, clock, l', ty, v, rfl, g1, g2, g3, g4, g5, g6, g7, g8⟩ := h
   obtain ⟨k', e'⟩ := h2.2 id rfl
   obtain ⟨j, k1, k2⟩ := h2.1 k' e'
   simp only [Pl.o.injEq] at k1; subst k1
   exact ⟨k', b', l, clock, l', ty, v, e', h1.trans g1, g2, g3, renK hab hb hv g4, g5, k2.trans g6, g7, g8⟩
 | mpz es s =>
   obtain ⟨h, g1, g2, g3, l', g4, g5⟩ := h
   refine ⟨?_, g1, g2, g3, l', g4, renK hab hb hv g5⟩
   cases p' with
   | o k =>
     obtain ⟨j, rfl, g2⟩ := h2.1 k rfl
     simp only [En.own] at h ⊢
     rw [h1, g2]
     exact h
   | s k => cases p with
     | o j => obtain ⟨k', e⟩ := h2.2 j rfl; simp at e
     | s j => simp only [En.own] at h ⊢; rw [h1]; exact h
     | x j => simp only [En.own] at h ⊢; rw [h1]; exact h
   | x k => cases p with
     | o j => obtain ⟨k', e⟩ := h2.2 j rfl; simp at e
     | s j => simp only [En.own] at h ⊢; rw [h1]; exact h
     | x j => simp only [En.own] at h ⊢; rw [h1]; exact h
 | mit m s left cur =>
   obtain ⟨h0, r, seen, g1, g2, g3⟩ := h
   refine ⟨fun k e => ?_, r, seen, h1.trans g1, g2, g3⟩
   obtain ⟨j, k1, k2⟩ := h2.1 k e
   rw [k2]; exact h0 j k1
def renS (a b : Nat) (t : S) : S := fun p => match p with
 | .o k => if k = b then renI a b (t (.o a)) else if k = a then .none else renI a b (t (.o k))
 | p => renI a b (t p)
theorem GS.ren {t : S} {a b : Nat} (hab : a ≠ b) (ho : t (.o b) = .none) : GS A t (renS a b t) := fun c w ⟨E, hw, hi⟩ => by
 have hbn := hi.h.item (.o b) (by simp)
 rw [ho] at hbn
 obtain ⟨hb, hv⟩ := hbn b rfl
 have hownb : E.own (.o b) = none := by simp [En.own, hb, hv]
 have hox : ∀ i, (E.ren a b).own (.x i) = E.own (.x i) := fun i => rfl
 have hos : ∀ i, (E.ren a b).own (.s i) = E.own (.s i) := fun i => rfl
 have back : ∀ {p q}, (E.ren a b).own p = some q → ∃ p', E.own p' = some q ∧ ((p' = .o a ∧ p = .o b) ∨ (p' = p ∧ p ≠ .o a ∧ p ≠ .o b)) := fun {p q} h => by
  cases p with
  | s k => exact ⟨.s k, h, .inr ⟨rfl, by simp, by simp⟩⟩
  | x k => exact ⟨.x k, h, .inr ⟨rfl, by simp, by simp⟩⟩
  | o k =>
    rw [ren_own hab] at h
    split at h
    ·rename_i e; subst e; exact ⟨.o a, h, .inl ⟨rfl, rfl⟩⟩
    ·rename_i e1
     split at h
     ·simp at h
     ·rename_i e2; exact ⟨.o k, h, .inr ⟨rfl, by simpa using e2, by simpa using e1⟩⟩
 refine ⟨E.ren a b, hw, ⟨⟨fun p hp => ?_, hi.h.frees, fun p q r h1 h2 => ?_, fun p r h => ?_, hi.h.stsz, fun r o h1 p h2 => ?_, fun y hy => RepCells.ext (E := E) (E' := E.ren a b) ⟨fun _ _ h => h, fun _ _ _ => rfl⟩ _ _ _ (hi.h.gl y hy)⟩, ?_, fun k tv hk => ?_, hi.defers, hi.size⟩⟩
 ·cases p with
  | s k => exact absurd rfl (hp k)
  | x k => exact ren_item hab hb hv (hi.h.item (.x k) hp) hp rfl ⟨fun k e => by simp at e, fun j e => by simp at e⟩
  | o k =>
    simp only [renS]
    split
    ·rename_i e; subst e
     exact ren_item hab hb hv (hi.h.item (.o a) (by simp)) (by simp) (by simp [En.ren]) ⟨fun k e => ⟨a, rfl, by simp only [Pl.o.injEq] at e; subst e; simp [En.ren]⟩, fun j _ => ⟨_, rfl⟩⟩
    ·rename_i e1
     split
     ·rename_i e2; subst e2
      exact fun j e => by simp only [Pl.o.injEq] at e; subst e; simp [En.ren, e1]
     ·rename_i e2
      exact ren_item hab hb hv (hi.h.item (.o k) hp) hp (by simp [En.ren, e1, e2]) ⟨fun j e => ⟨k, rfl, by simp only [Pl.o.injEq] at e; subst e; simp [En.ren, e1, e2]⟩, fun j _ => ⟨_, rfl⟩⟩
 ·obtain ⟨p', g1, g2⟩ := back h1
  obtain ⟨q', g3, g4⟩ := back h2
  have := hi.h.inj p' q' r g1 g3
  subst this
  rcases g2 with ⟨e1, e2⟩ | ⟨e1, e2, e3⟩ <;> rcases g4 with ⟨e4, e5⟩ | ⟨e4, e5, e6⟩
  ·rw [e2, e5]
  ·exact absurd (e4.symm.trans e1) e5
  ·exact absurd (e1.symm.trans e4) e2
  ·rw [← e1, ← e4]
 ·obtain ⟨p', g1, _⟩ := back h
  exact hi.h.size p' r g1
 ·obtain ⟨p', g1, g2⟩ := back h2
  obtain ⟨e, k, es, g3, g4⟩ := hi.h.sep r o h1 p' g1
  refine ⟨e, k, es.map (TV.rens a b), ?_, by simpa using g4⟩
  rcases g2 with ⟨rfl, rfl⟩ | ⟨rfl, e2, e3⟩
  ·simp only [renS, if_true, g3]; rfl
  ·cases p' with
   | s k => have := hi.h.frees k; simp [En.own, this] at g1
   | x k => simp only [renS, g3]; rfl
   | o k =>
     have n1 : k ≠ b := by simpa using e3
     have n2 : k ≠ a := by simpa using e2
     simp only [renS, if_neg n1, if_neg n2, g3]; rfl
 ·refine ⟨hi.fr.os, hi.fr.tape, hi.fr.output, hi.fr.size, hi.fr.old, hi.fr.xb, fun id r h => ?_, hi.fr.st, hi.fr.newst⟩
  obtain ⟨p', g1, g2⟩ := back h
  rcases g2 with ⟨rfl, _⟩ | ⟨rfl, _, _⟩
  ·exact hi.fr.new a r g1
  ·exact hi.fr.new id r g1
 ·simp only [renS] at hk
  cases ht : t (.s k) with
  | v tv' =>
    rw [ht] at hk
    simp only [renI, It.v.injEq] at hk
    subst hk
    obtain ⟨u, h1, h2⟩ := hi.sl k tv' ht
    exact ⟨u, h1, ren_rel hab hb hv h2⟩
  | none => rw [ht] at hk; simp [renI] at hk
  | box _ => rw [ht] at hk; simp [renI] at hk
  | row _ _ _ _ => rw [ht] at hk; simp [renI] at hk
  | que _ _ _ => rw [ht] at hk; simp [renI] at hk
  | mp _ => rw [ht] at hk; simp [renI] at hk
  | mpk _ _ _ _ => rw [ht] at hk; simp [renI] at hk
  | mit _ _ _ _ => rw [ht] at hk; simp [renI] at hk
  | mpz _ _ => rw [ht] at hk; simp [renI] at hk
def renL (a b : Nat) (l : List (Pl × It)) : List (Pl × It) := l.map fun x => (renP a b x.1, renI a b x.2)
theorem renS_look {a b : Nat} (hab : a ≠ b) : ∀ {l : List (Pl × It)}, b ∉ oIds l → renS a b (look l) = look (renL a b l)
 | [], _ => by funext p; cases p <;> simp [renS, look, renL, renI]
 | (q, i) :: l, h => by
   have hl : b ∉ oIds l := by cases q <;> simp_all [oIds]
   have ih := fun p => congrFun (renS_look hab hl) p
   have hq : q ≠ .o b := fun e => by subst e; simp [oIds] at h
   funext p
   have hp := ih p
   simp only [renL] at hp
   simp only [renL, List.map_cons, look]
   cases p with
   | s k =>
     simp only [renS, look] at hp ⊢
     cases q with
     | s j =>
       simp only [renP, Pl.s.injEq]
       by_cases e : k = j
       ·subst e; simp
       ·simp only [if_neg e]; exact hp
     | x j => simp only [renP, reduceCtorEq, if_false]; exact hp
     | o j => simp only [renP, reduceCtorEq, if_false]; exact hp
   | x k =>
     simp only [renS, look] at hp ⊢
     cases q with
     | x j =>
       simp only [renP, Pl.x.injEq]
       by_cases e : k = j
       ·subst e; simp
       ·simp only [if_neg e]; exact hp
     | s j => simp only [renP, reduceCtorEq, if_false]; exact hp
     | o j => simp only [renP, reduceCtorEq, if_false]; exact hp
   | o k =>
     simp only [renS, look] at hp ⊢
     cases q with
     | s j => simp only [renP, reduceCtorEq, if_false]; exact hp
     | x j => simp only [renP, reduceCtorEq, if_false]; exact hp
     | o j =>
       have hj : j ≠ b := fun e => hq (by rw [e])
       simp only [renP, Pl.o.injEq, renN]
       by_cases e1 : k = b
       ·subst e1
        simp only [if_true] at hp ⊢
        by_cases e2 : j = a
        ·subst e2; simp
        ·simp only [if_neg e2, if_neg (fun h : a = j => e2 h.symm), if_neg (fun h : k = j => hj h.symm)]; exact hp
       ·simp only [if_neg e1] at hp ⊢
        by_cases e2 : k = a
        ·subst e2
         simp only [if_true] at hp ⊢
         by_cases e3 : j = k
         ·subst e3; simp only [if_true, if_neg e1]; exact hp
         ·simp only [if_neg e3, if_neg (fun h : k = j => e3 h.symm)]; exact hp
        ·simp only [if_neg e2] at hp ⊢
         by_cases e3 : j = a
         ·subst e3; simp only [if_true, if_neg e1, if_neg e2]; exact hp
         ·simp only [if_neg e3]
          by_cases e4 : k = j
          ·subst e4; simp
          ·simp only [if_neg e4]; exact hp
theorem GS.ren' {l l' : List (Pl × It)} (a b : Nat) (hab : a ≠ b) (hb : b ∉ oIds l) (h : Sub (look (renL a b l)) l' ∧ xIds l' = xIds (renL a b l)) : GS A (look l) (look l') := by
 have := GS.ren (A := A) (t := look l) hab (look_o hb)
 rw [renS_look hab hb] at this
 exact this.trans (GS.forget h.1 h.2)
end
theorem rens_map (a b : Nat) : ∀ l : List D, TV.rens a b (l.map .d) = l.map .d
 | [] => rfl
 | x :: l => by simp [TV.rens, TV.ren, rens_map a b l]
theorem rens_dd (a b : Nat) (xs : List (List D)) : (dd xs).map (TV.rens a b) = dd xs := by
 simp only [dd, List.map_map]
 exact List.map_congr_left fun e _ => rens_map a b e
section
variable (a b : Nat) (cs : List TV) (e k : Nat) (es : List (List TV)) (sh : Bool) (t : TV) (m : List (Int × D))
theorem renI_v : renI a b (.v t) = .v (t.ren a b) := rfl
theorem renI_box : renI a b (.box cs) = .box (TV.rens a b cs) := rfl
theorem renI_row : renI a b (.row e k es sh) = .row e k (es.map (TV.rens a b)) sh := rfl
attribute [simp] renI_v renI_box renI_row
end
attribute [simp] renL renP renN TV.ren TV.rens rens_dd
end Go.Tr

namespace Go.Tr
open Go
section
variable {A : Actv}
theorem toDs_dd {E : En} {us : List Value} : ∀ {o : Nat} {ts : List TV} {xs : List D}, toDs ts = some xs → CellsRel E us o ts → CellsRel E us o (xs.map .d)
 | _, [], _, h, _ => by simp only [toDs, Option.some.injEq] at h; subst h; trivial
 | _, t :: ts, xs, h, ⟨⟨u, h1, h2, h3⟩, hr⟩ => by
   simp only [toDs] at h
   split at h
   ·rename_i x xs' g1 g2
    simp only [Option.some.injEq] at h; subst h
    exact ⟨⟨u, h1, h2, by simp only [RelV]; exact toD_rel g1 h3⟩, toDs_dd g2 hr⟩
   ·simp at h
theorem toDs_len {ts : List TV} {xs : List D} (h : toDs ts = some xs) : xs.length = ts.length := (toDs_get h).1
theorem toDss_dd' {E : En} {us : List Value} {k : Nat} : ∀ {o : Nat} {es : List (List TV)} {xs : List (List D)}, toDss es = some xs → RowRel E us k o es → RowRel E us k o (dd xs)
 | _, [], _, h, _ => by simp only [toDss, Option.some.injEq] at h; subst h; trivial
 | _, e :: es, xs, h, ⟨h1, h2, hr⟩ => by
   simp only [toDss] at h
   split at h
   ·rename_i x xs' g1 g2
    simp only [Option.some.injEq] at h; subst h
    exact ⟨by rw [List.length_map, toDs_len g1]; exact h1, toDs_dd g1 h2, toDss_dd' g2 hr⟩
   ·simp at h
theorem GS.plain {t : S} {id e k : Nat} {es : List (List TV)} {sh : Bool} {xs : List (List D)} (ht : t (.o id) = .row e k es sh) (hx : toDss es = some xs) : GS A t (upd t (.o id) (.row e k (dd xs) sh)) := fun a w ⟨E, hw, hi⟩ =>
 ⟨E, hw, hi.rowSee ht (by rw [dd, List.length_map]; exact (toDss_get hx).1) fun _ h => toDss_dd' hx h⟩
end
theorem toDss_set {es : List (List TV)} {xs : List (List D)} {k : Nat} {r : List TV} {x : List D} (h : toDss es = some xs) (hr : toDs r = some x) : toDss (es.set k r) = some (xs.set k x) := by
 induction es generalizing xs k with
 | nil => simp [toDss] at h; subst h; rfl
 | cons e es ih =>
   simp only [toDss] at h
   split at h
   ·rename_i x' xs' h1 h2
    simp only [Option.some.injEq] at h; subst h
    cases k with
    | zero => simp only [List.set_cons_zero, toDss, hr, h2]
    | succ k => simp only [List.set_cons_succ, toDss, h1, ih h2]
   ·simp at h
end Go.Tr

namespace Go.Tr
open Go
section
variable {P : Program} {A : Actv}
theorem GS.que {t : S} {id k : Nat} {e : TypeId} {es : List (List TV)} (ht : t (.o id) = .row e k es false) (hn : 0 < es.length) : GS A t (upd t (.o id) (.que e k es)) := fun a w ⟨E, hw, hi⟩ => by
 obtain ⟨h0, v, us, h1, h2, h3, _⟩ := row_cur hi ht
 have hit : ItemOK E (.o id) (.que e k es) := by
  rcases h2.2 with ⟨_, h4⟩ | ⟨g, cap, cur, rfl, _, hg, hnc, hcm, hcs, htk⟩
  ·omega
  ·exact ⟨h0, id, _, us, rfl, h1, ⟨h2.1, g, 0, cap, cur, rfl, hg, hnc, hcm, by rw [hcs, Nat.zero_add]; exact Nat.le_refl _, by rw [List.drop_zero]; exact htk⟩, h3⟩
 refine ⟨E, hw, ⟨⟨fun p hp => ?_, hi.h.frees, hi.h.inj, hi.h.size, hi.h.stsz, fun b o hb p hp => ?_, hi.h.gl⟩, hi.fr, fun j tv hj => hi.sl j tv (by simpa [upd] using hj), hi.defers, hi.size⟩⟩
 ·by_cases e : p = .o id
  ·subst e; simpa only [upd, if_true] using hit
  ·simp only [upd, if_neg e]; exact hi.h.item p hp
 ·obtain ⟨e2, k2, es2, g1, g2⟩ := hi.h.sep b o hb p hp
  have : p ≠ .o id := fun e => by subst e; rw [ht] at g1; simp at g1
  exact ⟨e2, k2, es2, by simp only [upd, if_neg this]; exact g1, g2⟩
theorem rowD_cut {E E' : En} (hr : ExtR E E') {us : List Value} {k j : Nat} {xs : List (List D)} (h : RowRel E us k 0 (dd xs)) : RowRel E' (us.drop (j * k)) k 0 (dd (xs.drop j)) := by
 refine RowRel.of_get fun i c hc => ?_
 simp only [dd, List.getElem?_map, List.getElem?_drop, Option.map_eq_some_iff] at hc
 obtain ⟨d, h1, rfl⟩ := hc
 obtain ⟨h2, h3⟩ := h.get (i := j + i) (e := d.map .d) (by simp [dd, h1])
 refine ⟨h2, CellsRel.of_get fun q tv hq => ?_⟩
 obtain ⟨u, h4, h5, h6⟩ := h3.get hq
 refine ⟨u, ?_, h5, ?_⟩
 ·rw [List.getElem?_drop, ← h4]; congr 1; rw [Nat.add_mul]; omega
 ·simp only [List.getElem?_map, Option.map_eq_some_iff] at hq
  obtain ⟨x, _, rfl⟩ := hq
  simp only [RelV] at h6 ⊢
  exact Rep.ext hr x u h6
def isS (k : Nat) : Pl → Bool
 | .s j => k == j
 | _ => false
theorem GS.cut {l l' : List (Pl × It)} (l0 : List (Pl × It)) (s id : Nat) {n j k : Nat} {e : TypeId} {xs : List (List D)} (hs : look l (.s s) = .v (.osl id n j)) (ht : look l (.o id) = .que e k (dd xs)) (hn : n = xs.length) (hj : j ≤ n)
  (h : Sub (look l) l0 ∧ xIds l0 = xIds l) (hid : id ∉ oIds l0)
  (h' : Sub (look (put1 (.s s) (.v (.oref id (n - j))) (put1 (.o id) (.que e k (dd (xs.drop j))) l0))) l' ∧ xIds l' = xIds (put1 (.s s) (.v (.oref id (n - j))) (put1 (.o id) (.que e k (dd (xs.drop j))) l0))) : GS A (look l) (look l') := by
 refine GS.trans (u := look (put1 (.s s) (.v (.oref id (n - j))) (put1 (.o id) (.que e k (dd (xs.drop j))) l0))) (fun a w ⟨E, hw, hi⟩ => ?_) (GS.forget h'.1 h'.2)
 have hi1 := hi.forget h.1 (x_same h.1.1 h.2)
 obtain ⟨hblk, v, us, hval, hown, hrel, _⟩ := que_cur hi ht
 obtain ⟨u, hu1, hu2⟩ := hi.sl s _ hs
 have hlen : (dd xs).length = xs.length := by simp [dd]
 rw [hlen] at hval hown
 subst hn
 simp only [RelV] at hu2
 obtain ⟨hone, k', c, v', hv', _, he⟩ := hu2
 rw [hval] at hv'
 simp only [Option.some.injEq, Prod.mk.injEq] at hv'
 obtain ⟨rfl, rfl, rfl⟩ := hv'
 obtain ⟨b, of, cp, o2, rfl, _, ho2, hu⟩ := he rfl
 obtain ⟨hl0, g, of', cap, cur, hvv, hg, hnc, hcm, hcs, htk⟩ := hown
 simp only [Value.slice.injEq, Option.some.injEq, Addr.mk.injEq] at hvv
 obtain ⟨⟨rfl, rfl, _⟩, _, rfl⟩ := hvv
 have hownE : E.own (.o id) = some b := by simp [En.own, hblk, hval, Value.ownBlock]
 rw [← upd_look, ← upd_look]
 let E1 := E.res (oIds l0)
 have b1 : E1.blk (.o id) = none := by simp [E1, En.res, hid]
 have v1 : E1.val id = none := by simp [E1, En.res, hid]
 let E2 : En := { E1 with val := fun i => if i = id then some (k, xs.length - j, u) else E1.val i }
 have v2 : E2.val id = some (k, xs.length - j, u) := by simp [E2]
 have x12 : ExtA E1 E2 := by
  refine ⟨fun _ _ h => h, fun _ _ _ => rfl, fun _ _ _ h => h, fun _ _ h => h, fun _ _ h => h, fun i k' c u' _ hu' => ?_⟩
  by_cases e : i = id
  ·subst e; rw [v1] at hu'; simp at hu'
  ·exact ⟨c, u', by simp [E2, e, hu'], Nat.le_refl _, fun _ => rfl⟩
 have own2 : ∀ {p b'}, E2.own p = some b' → (p = .o id ∧ b' = b) ∨ (p ≠ .o id ∧ E1.own p = some b') := fun {p b'} hp => by
  by_cases e : p = .o id
  ·subst e
   refine .inl ⟨rfl, ?_⟩
   have : E2.own (.o id) = some b := by simp [En.own, E2, b1, hu, Value.ownBlock]
   rw [this] at hp; simpa using hp.symm
  ·have h3 : E2.own p = E1.own p := En.own_eq rfl (fun i hi => by subst hi; have : i ≠ id := fun h => e (by rw [h]); simp [E2, this])
   exact .inr ⟨e, h3.symm.trans hp⟩
 have ownE1 : ∀ {p b'}, E1.own p = some b' → E.own p = some b' := fun h => (En.res_own h).1
 have hbs : b < E.w.heap.size := (Array.getElem?_eq_some_iff.1 hg).1
 have hjk : j * k ≤ xs.length * k := Nat.mul_le_mul_right _ (by omega)
 have hcapk : (cp - j) * k = cp * k - j * k := Nat.sub_mul _ _ _
 have hnk : (xs.length - j) * k = xs.length * k - j * k := Nat.sub_mul _ _ _
 have hcp : xs.length * k ≤ cp * k := Nat.mul_le_mul_right _ hnc
 have hq : ownsQ E2.w e k u (xs.length - j) (us.drop (j * k)) := by
  rcases ho2 with rfl | ⟨rfl, hz⟩
  ·refine ⟨by rw [List.length_drop, hl0, hnk], b, of + j * k, cp - j, cur, hu, hg, by omega, by omega, by rw [hcapk]; omega, ?_⟩
   rw [← htk, List.drop_take, List.drop_drop, hnk]
  ·have hz2 : xs.length - j = 0 := by omega
   refine ⟨by rw [List.length_drop, hl0, hnk], b, o2, cp - j, cur, hu, hg, by omega, by omega, by rw [hz]; omega, ?_⟩
   rw [hz2, Nat.zero_mul, List.take_zero]
   refine (List.drop_eq_nil_of_le ?_).symm
   rw [hl0]
   exact Nat.mul_le_mul_right _ (by omega)
 have hlen2 : (dd (xs.drop j)).length = xs.length - j := by simp [dd]
 have hH : HInv E2 (upd (look l0) (.o id) (.que e k (dd (xs.drop j)))) := by
  refine ⟨fun p hp => ?_, hi1.h.frees, fun p q b' g1 g2 => ?_, fun p b' g1 => ?_, hi1.h.stsz, fun b' o g1 p g2 => ?_, fun y hy => RepCells.ext x12.r _ _ _ (hi1.h.gl y hy)⟩
  ·by_cases e : p = .o id
   ·subst e
    simp only [upd, if_true]
    exact ⟨b1, id, u, us.drop (j * k), rfl, by rw [hlen2]; exact v2, by rw [hlen2]; exact hq, rowD_cut (E := E) (E' := E2) ⟨fun _ _ h => h, fun _ _ _ => rfl⟩ hrel⟩
   ·simp only [upd, if_neg e]
    exact (hi1.h.item p hp).up x12 rfl (fun i hi => by subst hi; have : i ≠ id := fun h => e (by rw [h]); simp [E2, this]; rfl) (fun _ _ => rfl)
  ·rcases own2 g1 with ⟨rfl, rfl⟩ | ⟨n1, g1⟩ <;> rcases own2 g2 with ⟨rfl, h2⟩ | ⟨n2, g2⟩
   ·rfl
   ·exact (hi.h.inj _ _ _ hownE (ownE1 g2))
   ·subst h2; exact (hi.h.inj _ _ _ (ownE1 g1) hownE)
   ·exact hi1.h.inj _ _ _ g1 g2
  ·rcases own2 g1 with ⟨rfl, rfl⟩ | ⟨_, g1⟩
   ·exact hbs
   ·exact hi1.h.size _ _ g1
  ·rcases own2 g2 with ⟨rfl, rfl⟩ | ⟨n2, g2⟩
   ·exact absurd hownE (que_no_st hi ht g1)
   ·obtain ⟨e2, k2, es2, g3, g4⟩ := hi1.h.sep b' o g1 p g2
    exact ⟨e2, k2, es2, by simp only [upd, if_neg n2]; exact g3, g4⟩
 refine ⟨E2, hw, ⟨hH.slot s _, ⟨hi1.fr.os, hi1.fr.tape, hi1.fr.output, hi1.fr.size, hi1.fr.old, hi1.fr.xb, fun i b' g1 => ?_, hi1.fr.st, hi1.fr.newst⟩, fun q tv hq' => ?_, hi1.defers, hi1.size⟩⟩
 ·rcases own2 g1 with ⟨g2, rfl⟩ | ⟨_, g2⟩
  ·exact hi.fr.new id _ hownE
  ·exact hi1.fr.new i b' g2
 ·by_cases eq : q = s
  ·subst eq
   simp only [upd, if_true, It.v.injEq] at hq'
   subst hq'
   exact ⟨u, hu1, by simp only [RelV]; exact ⟨hone, k, _, u, v2, Nat.le_refl _, fun _ => rfl⟩⟩
  ·simp only [upd, Pl.s.injEq, eq, if_false, reduceCtorEq] at hq'
   obtain ⟨u', g1, g2⟩ := hi1.sl q tv hq'
   exact ⟨u', g1, g2.up x12⟩
end
end Go.Tr

namespace Go.Proofs
open Go Go.Lib
theorem asc_ext : ∀ {a b : List Int}, a.Pairwise (· < ·) → b.Pairwise (· < ·) → (∀ x, x ∈ a ↔ x ∈ b) → a = b
 | [], [], _, _, _ => rfl
 | [], y :: b, _, _, h => by have := (h y).2 (by simp); simp at this
 | x :: a, [], _, _, h => by have := (h x).1 (by simp); simp at this
 | x :: a, y :: b, ha, hb, h => by
   rw [List.pairwise_cons] at ha hb
   have hxy : x = y := by
    have h1 := (h x).1 (by simp)
    have h2 := (h y).2 (by simp)
    rcases List.mem_cons.1 h1 with e | h1
    ·exact e
    ·rcases List.mem_cons.1 h2 with e | h2
     ·exact e.symm
     ·have := hb.1 x h1; have := ha.1 y h2; omega
   subst hxy
   congr 1
   refine asc_ext ha.2 hb.2 fun z => ?_
   have hz := h z
   simp only [List.mem_cons] at hz
   constructor
   ·intro hm
    rcases hz.1 (.inr hm) with e | h
    ·subst e; have := ha.1 z hm; omega
    ·exact h
   ·intro hm
    rcases hz.2 (.inr hm) with e | h
    ·subst e; have := hb.1 z hm; omega
    ·exact h
theorem compact_inv (zs : List Int) (hs : zs.Pairwise (· ≤ ·)) : ∀ m, m ≤ zs.length → (compactUpTo zs.toArray m).Pairwise (· < ·) ∧ (∀ x, x ∈ compactUpTo zs.toArray m ↔ ∃ j, j < m ∧ zs[j]? = some x)
 | 0, _ => by simp [compactUpTo]
 | m + 1, hm => by
   obtain ⟨h1, h2⟩ := compact_inv zs hs m (by omega)
   have hget : ∀ j, j < zs.length → zs.toArray[j]! = zs.getD j 0 := fun j hj => by simp [List.getD, hj]
   rw [compactUpTo_succ]
   have hmz : zs[m]? = some (zs.getD m 0) := by simp [List.getD, show m < zs.length by omega]
   have hle : ∀ j, j < m → zs.getD j 0 ≤ zs.getD m 0 := fun j hj => by
    have := List.pairwise_iff_getElem.1 hs j m (by omega) (by omega) hj
    simpa [List.getD, show m < zs.length by omega, show j < zs.length by omega] using this
   cases hk : keeps zs.toArray m with
   | false =>
     have h3 : 0 < m ∧ zs.toArray[m]! = zs.toArray[m - 1]! := by
      have hk' : ¬ (m = 0 ∨ zs.toArray[m]! ≠ zs.toArray[m - 1]!) := by simpa only [keeps, decide_eq_false_iff_not] using hk
      exact ⟨Nat.pos_of_ne_zero fun e => hk' (.inl e), Classical.byContradiction fun e => hk' (.inr e)⟩
     rw [if_neg (by simp), List.append_nil]
     refine ⟨h1, fun x => ?_⟩
     rw [h2]
     constructor
     ·rintro ⟨j, hj, hx⟩; exact ⟨j, by omega, hx⟩
     ·rintro ⟨j, hj, hx⟩
      by_cases e : j = m
      ·subst e
       refine ⟨j - 1, by omega, ?_⟩
       have h4 := h3.2
       rw [hget j (by omega), hget (j - 1) (by omega)] at h4
       rw [hmz] at hx
       simp only [Option.some.injEq] at hx
       rw [← hx, h4]
       simp [List.getD, show j - 1 < zs.length by omega]
      ·exact ⟨j, by omega, hx⟩
   | true =>
     rw [if_pos rfl, hget m (by omega)]
     refine ⟨?_, fun x => ?_⟩
     ·rw [List.pairwise_append]
      refine ⟨h1, by simp, fun x hx y hy => ?_⟩
      simp at hy; subst hy
      obtain ⟨j, hj, hjx⟩ := (h2 x).1 hx
      have hxj : zs.getD j 0 = x := by simp [List.getD, hjx]
      have := hle j hj
      have hne : zs.getD (m - 1) 0 ≠ zs.getD m 0 := by
       simp only [keeps, Bool.or_eq_true, decide_eq_true_eq] at hk
       rcases hk with h | h
       ·omega
       ·rw [hget m (by omega), hget (m - 1) (by omega)] at h
        exact fun e => h e.symm
      have hj1 : zs.getD j 0 ≤ zs.getD (m - 1) 0 := by
       by_cases e : j = m - 1
       ·subst e; omega
       ·have := List.pairwise_iff_getElem.1 hs j (m - 1) (by omega) (by omega) (by omega)
        simpa [List.getD, show m - 1 < zs.length by omega, show j < zs.length by omega] using this
      have h5 := hle (m - 1) (by omega)
      rw [← hxj]
      show zs.getD j 0 < zs.getD m 0
      omega
     ·rw [List.mem_append, h2]
      simp only [List.mem_singleton]
      constructor
      ·rintro (⟨j, hj, hx⟩ | rfl)
       ·exact ⟨j, by omega, hx⟩
       ·exact ⟨m, by omega, hmz⟩
      ·rintro ⟨j, hj, hx⟩
       by_cases e : j = m
       ·subst e; rw [hmz] at hx; simp only [Option.some.injEq] at hx; exact .inr hx.symm
       ·exact .inl ⟨j, by omega, hx⟩
def insPos (n : Int) : List Int → Nat
 | [] => 0
 | y :: r => if y < n then insPos n r + 1 else 0
def insI (l : List Int) (n : Int) : List Int := if l[insPos n l]? = some n then l else l.take (insPos n l) ++ [n] ++ l.drop (insPos n l)
theorem insPos_le (n : Int) : ∀ l : List Int, insPos n l ≤ l.length
 | [] => Nat.le_refl _
 | y :: r => by
   have := insPos_le n r
   simp only [insPos, List.length_cons]
   split <;> omega
theorem insPos_take (n : Int) : ∀ (l : List Int), ∀ x ∈ l.take (insPos n l), x < n
 | [] => by simp
 | y :: r => by
   simp only [insPos]
   split
   ·rename_i h
    intro x hx
    simp at hx
    rcases hx with rfl | hx
    ·exact h
    ·exact insPos_take n r x hx
   ·simp
theorem insPos_at (n : Int) : ∀ (l : List Int) (x : Int), l[insPos n l]? = some x → n ≤ x
 | [], x, h => by simp at h
 | y :: r, x, h => by
   simp only [insPos] at h
   split at h
   ·exact insPos_at n r x (by simpa using h)
   ·simp at h; omega
theorem insI_asc {l : List Int} (n : Int) (h : l.Pairwise (· < ·)) : (insI l n).Pairwise (· < ·) ∧ ∀ x, x ∈ insI l n ↔ x ∈ l ∨ x = n := by
 unfold insI
 split
 ·rename_i he
  refine ⟨h, fun x => ⟨.inl, fun hx => hx.elim id fun e => by subst e; exact List.mem_of_getElem? he⟩⟩
 ·rename_i he
  have hl : l.take (insPos n l) ++ l.drop (insPos n l) = l := List.take_append_drop _ _
  have hp : (l.take (insPos n l) ++ l.drop (insPos n l)).Pairwise (· < ·) := by rw [hl]; exact h
  rw [List.pairwise_append] at hp
  have hd : ∀ x ∈ l.drop (insPos n l), n < x := fun x hx => by
   cases hc : l.drop (insPos n l) with
   | nil => rw [hc] at hx; simp at hx
   | cons y r =>
     have hy : l[insPos n l]? = some y := by
      have : (l.drop (insPos n l))[0]? = some y := by rw [hc]; rfl
      simpa using this
     have h1 := insPos_at n l y hy
     have h2 : y ≠ n := fun e => he (by rw [hy, e])
     rw [hc] at hx
     rcases List.mem_cons.1 hx with rfl | hx
     ·omega
     ·have := hp.2.1
      rw [hc, List.pairwise_cons] at this
      have := this.1 x hx
      omega
  refine ⟨?_, fun x => ?_⟩
  ·rw [List.append_assoc, List.pairwise_append]
   refine ⟨hp.1, by simpa using ⟨hd, hp.2.1⟩, fun a ha b hb => ?_⟩
   have h1 := insPos_take n l a ha
   simp at hb
   rcases hb with rfl | hb
   ·exact h1
   ·have := hd b hb; omega
  ·have : x ∈ l ↔ x ∈ l.take (insPos n l) ∨ x ∈ l.drop (insPos n l) := by rw [← List.mem_append, hl]
   rw [this]
   simp only [List.mem_append, List.mem_singleton]
   constructor
   ·rintro ((h | h) | h)
    ·exact .inl (.inl h)
    ·exact .inr h
    ·exact .inl (.inr h)
   ·rintro ((h | h) | h)
    ·exact .inl (.inl h)
    ·exact .inr h
    ·exact .inl (.inr h)
end Go.Proofs
