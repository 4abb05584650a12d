/-
  Laws of the layer between the model and plain data (states, operations, calls, loops); none has a condition beyond those that stand in its own statement.
-/
import Derived.Test.YtkhneohilohhiaaT15
set_option linter.unusedSimpArgs false
namespace Go.Tr
open Go

def lookI : List (Nat × It) → Nat → It
  | [], _ => .none
  | (j, i) :: l, id => if id = j then i else lookI l id

def xlook (xs : List It) : S := fun p => match p with
  | .x i => xs.getD i .none
  | _ => .none

def rlook (xs : List It) (ro : List (Nat × It)) : S := fun p => match p with
  | .x i => xs.getD i .none
  | .o id => lookI ro id
  | _ => .none

structure Post (E : En) (xs : List It) (ro : List (Nat × It)) (r : TV) (u : Value) (E' : En) : Prop where
  h : HInv E' (rlook xs ro)
  fr : Fr E E'
  rel : RelV E' r u

/-- What a function does: from arguments and outer objects to a result, the outer objects, new objects. -/
def Contract (P : Program) (f : FuncId) (args : List TV) (xs : List It) (r : TV) (xs' : List It) (ro : List (Nat × It)) : Prop :=
  ∀ (E : En) (us : List Value), HInv E (xlook xs) → RelVs E args us → Calls P f us.toArray E.w fun e w' => ∃ u E', e = .returned u ∧ E'.w = w' ∧ Post E xs' ro r u E'

/-! ### passing a value on -/
def idxP (p : Pl) : List Pl → Nat → Option Nat
  | [], _ => none
  | q :: l, i => if p = q then some i else idxP p l (i + 1)

theorem idxP_spec {p : Pl} : ∀ {l : List Pl} {i j : Nat}, idxP p l i = some j → i ≤ j ∧ l[j - i]? = some p
  | [], _, _, h => by simp [idxP] at h
  | q :: l, i, j, h => by
    simp only [idxP] at h
    split at h
    · rename_i e; simp only [Option.some.injEq] at h; subst h; subst e; simp
    · obtain ⟨h1, h2⟩ := idxP_spec h
      refine ⟨by omega, ?_⟩
      rw [show j - i = (j - (i + 1)) + 1 by omega]
      simpa using h2

mutual
def TV.pass (t : S) (ν : List Pl) : TV → Option TV
  | .junk => some .junk
  | .d x => some (.d x)
  | .c v => some (match v with | .slice none 0 0 => .d (.sl []) | v => .c v)
  | .agg vs => match TV.passs t ν vs with | some vs => some (.agg vs) | none => none
  | .tup _ => none
  | .oref id _ => match t (.o id) with
    | .row _ _ es true => match toDss es with | some xs => some (.d (.sl xs)) | none => none
    | _ => none
  | .ptr p q => match idxP p ν 0 with | some i => some (.ptr (.x i) q) | none => none
  | .ep e q => some (.ep e q)
  | .eptr _ _ _ _ => none
  | .mref _ => none
  | .sx _ => none
  | .clo f vs => match TV.passs t ν vs with | some vs => some (.clo f vs) | none => none
def TV.passs (t : S) (ν : List Pl) : List TV → Option (List TV)
  | [] => some []
  | v :: vs => match TV.pass t ν v, TV.passs t ν vs with
    | some v, some vs => some (v :: vs)
    | _, _ => none
end

mutual
/-- the rows that a value shows must be current -/
def TV.passC (t : S) : TV → Prop
  | .agg vs | .clo _ vs => TV.passCs t vs
  | .oref id n => match t (.o id) with
    | .row _ _ es _ => n = es.length
    | _ => False
  | _ => True
def TV.passCs (t : S) : List TV → Prop
  | [] => True
  | v :: vs => v.passC t ∧ TV.passCs t vs
end

mutual
def TV.rows : TV → List Nat
  | .agg vs | .clo _ vs => TV.rowss vs
  | .oref id _ => [id]
  | _ => []
def TV.rowss : List TV → List Nat
  | [] => []
  | v :: vs => v.rows ++ TV.rowss vs
end

section
variable {P : Program} {A : Actv}

/-- what is shown of shared rows is stable -/
theorem InvE.freezeAll {t : S} {a : Act} : ∀ (ids : List Nat) {E : En}, InvE A t a E → (∀ id ∈ ids, ∃ e k es xs, t (.o id) = .row e k es true ∧ toDss es = some xs) →
    ∃ E1 : En, E1.w = E.w ∧ ExtA E E1 ∧ E1.blk = E.blk ∧ E1.val = E.val ∧ InvE A t a E1 ∧
      ∀ id ∈ ids, ∀ e k es xs, t (.o id) = .row e k es true → toDss es = some xs → ∀ u, RelV E1 (.oref id es.length) u → Rep E1 (.sl xs) u
  | [], E, hi, _ => ⟨E, rfl, Ext.refl _ _, rfl, rfl, hi, fun _ h => by simp at h⟩
  | id :: ids, E, hi, h => by
    obtain ⟨e, k, es, xs, h1, h2⟩ := h id (by simp)
    obtain ⟨E', hw, x, hb, hv, hi', hr, _⟩ := hi.freeze h1 h2
    have hsame : upd t (.o id) (.row e k es true) = t := by
      funext p; by_cases hp : p = .o id
      · subst hp; simp [upd, h1]
      · simp [upd, hp]
    rw [hsame] at hi'
    obtain ⟨E1, hw1, x1, hb1, hv1, hi1, hr1⟩ := InvE.freezeAll ids hi' (fun i hi => h i (by simp [hi]))
    refine ⟨E1, hw1.trans hw, x.trans x1, hb1.trans hb, hv1.trans hv, hi1, fun i hii e' k' es' xs' g1 g2 u hu => ?_⟩
    rcases List.mem_cons.1 hii with rfl | hii
    · rw [h1] at g1
      simp only [It.row.injEq, and_true] at g1
      obtain ⟨rfl, rfl, rfl⟩ := g1
      rw [h2] at g2; simp only [Option.some.injEq] at g2; subst g2
      refine (hr u ?_).up x1
      simp only [RelV] at hu ⊢
      rw [hv1, hv] at hu
      exact hu
    · exact hr1 i hii e' k' es' xs' g1 g2 u hu

/-- how the callee sees memory -/
def En.callee (E : En) (ν : List Pl) : En :=
  { w := E.w, St := E.St, blk := fun p => match p with | .x i => (ν[i]?).bind E.blk | _ => none, val := fun _ => none }

mutual
theorem pass_rel {t : S} {ν : List Pl} {E : En} : ∀ {v v' : TV} {u : Value},
    (∀ id ∈ v.rows, ∀ e k es xs, t (.o id) = .row e k es true → toDss es = some xs → ∀ u, RelV E (.oref id es.length) u → Rep E (.sl xs) u) → v.pass t ν = some v' → v.passC t → RelV E v u → RelV (E.callee ν) v' u
  | .junk, v', u, _, h, _, _ => by simp only [TV.pass, Option.some.injEq] at h; subst h; simp only [RelV]
  | .d x, v', u, _, h, _, hr => by
    simp only [TV.pass, Option.some.injEq] at h; subst h
    simp only [RelV] at hr ⊢
    exact Rep.ext (E := E) (E' := E.callee ν) ⟨fun _ _ h => h, fun _ _ _ => rfl⟩ x u hr
  | .c v, v', u, _, h, _, hr => by
    simp only [TV.pass, Option.some.injEq] at h
    simp only [RelV] at hr
    subst hr
    split at h
    · subst h
      simp only [RelV, Rep]
      exact .inl ⟨rfl, _, _, rfl⟩
    · subst h; simp only [RelV]
  | .agg vs, v', u, hf, h, hc, hr => by
    simp only [TV.pass] at h
    split at h
    · rename_i vs' hv
      simp only [Option.some.injEq] at h; subst h
      simp only [RelV, TV.passC] at hr hc ⊢
      obtain ⟨us, hu, hs⟩ := hr
      exact ⟨us, hu, passs_rel (by simpa only [TV.rows] using hf) hv hc hs⟩
    · simp at h
  | .tup vs, v', u, _, h, _, _ => by simp [TV.pass] at h
  | .oref id n, v', u, hf, h, hc, hr => by
    simp only [TV.pass] at h
    split at h
    · rename_i e k es ht
      split at h
      · rename_i xs hx
        simp only [Option.some.injEq] at h; subst h
        simp only [TV.passC, ht] at hc
        subst hc
        have := hf id (by simp [TV.rows]) e k es xs ht hx u hr
        simp only [RelV]
        exact Rep.ext (E := E) (E' := E.callee ν) ⟨fun _ _ h => h, fun _ _ _ => rfl⟩ _ u this
      · simp at h
    · simp at h
  | .ptr p q, v', u, _, h, _, hr => by
    simp only [TV.pass] at h
    split at h
    · rename_i i hi
      simp only [Option.some.injEq] at h; subst h
      simp only [RelV] at hr ⊢
      obtain ⟨b, hb, hu⟩ := hr
      obtain ⟨_, h2⟩ := idxP_spec hi
      exact ⟨b, by simpa [En.callee, h2] using (by simpa using h2 : ν[i]? = some p) ▸ hb, hu⟩
    · simp at h
  | .ep e q, v', u, _, h, _, hr => by
    simp only [TV.pass, Option.some.injEq] at h; subst h
    simp only [RelV] at hr ⊢
    obtain ⟨b, o, hu, hc⟩ := hr
    exact ⟨b, o, hu, RepCells.ext (E := E) (E' := E.callee ν) ⟨fun _ _ h => h, fun _ _ _ => rfl⟩ b o e hc⟩
  | .eptr _ _ _ _, v', u, _, h, _, _ => by simp [TV.pass] at h
  | .mref _, v', u, _, h, _, _ => by simp [TV.pass] at h
  | .sx _, v', u, _, h, _, _ => by simp [TV.pass] at h
  | .clo f vs, v', u, hf, h, hc, hr => by
    simp only [TV.pass] at h
    split at h
    · rename_i vs' hv
      simp only [Option.some.injEq] at h; subst h
      simp only [RelV, TV.passC] at hr hc ⊢
      obtain ⟨us, hu, hs⟩ := hr
      exact ⟨us, hu, passs_rel (by simpa only [TV.rows] using hf) hv hc hs⟩
    · simp at h
theorem passs_rel {t : S} {ν : List Pl} {E : En} : ∀ {vs vs' : List TV} {us : List Value},
    (∀ id ∈ TV.rowss vs, ∀ e k es xs, t (.o id) = .row e k es true → toDss es = some xs → ∀ u, RelV E (.oref id es.length) u → Rep E (.sl xs) u) → TV.passs t ν vs = some vs' → TV.passCs t vs → RelVs E vs us → RelVs (E.callee ν) vs' us
  | [], vs', us, _, h, _, hr => by
    simp only [TV.passs, Option.some.injEq] at h; subst h
    simpa only [RelVs] using hr
  | v :: vs, vs', us, hf, h, hc, hr => by
    simp only [TV.passs] at h
    split at h
    · rename_i v1 vs1 h1 h2
      simp only [Option.some.injEq] at h; subst h
      simp only [RelVs, TV.passCs, TV.rowss] at hr hc hf ⊢
      obtain ⟨u, us', hu, g1, g2⟩ := hr
      exact ⟨u, us', hu, pass_rel (fun id hid => hf id (List.mem_append_left _ hid)) h1 hc.1 g1, passs_rel (fun id hid => hf id (List.mem_append_right _ hid)) h2 hc.2 g2⟩
    · simp at h
end

/-- the outer objects that the callee sees -/
def passI (t : S) (ν : List Pl) : It → Option It
  | .box cs => match TV.passs t ν cs with | some cs => some (.box cs) | none => none
  | _ => none

def passIs (t : S) (ν : List Pl) : List Pl → Option (List It)
  | [] => some []
  | p :: l => match passI t ν (t p), passIs t ν l with
    | some i, some is => some (i :: is)
    | _, _ => none

theorem passIs_spec {t : S} {ν : List Pl} : ∀ {l : List Pl} {xs : List It}, passIs t ν l = some xs → xs.length = l.length ∧ ∀ (i : Nat) (p : Pl), l[i]? = some p → ∃ cs cs', t p = .box cs ∧ TV.passs t ν cs = some cs' ∧ xs[i]? = some (.box cs')
  | [], xs, h => by simp only [passIs, Option.some.injEq] at h; subst h; simp
  | p :: l, xs, h => by
    simp only [passIs] at h
    split at h
    · rename_i it is h1 h2
      simp only [Option.some.injEq] at h; subst h
      obtain ⟨h3, h4⟩ := passIs_spec h2
      refine ⟨by simp [h3], fun i q hq => ?_⟩
      cases i with
      | zero =>
        simp at hq; subst hq
        unfold passI at h1
        split at h1
        · rename_i cs hcs
          split at h1
          · rename_i cs' hcs'
            simp only [Option.some.injEq] at h1; subst h1
            exact ⟨cs, cs', hcs, hcs', by simp⟩
          · simp at h1
        · simp at h1
      | succ i => simpa using h4 i q (by simpa using hq)
    · simp at h

def rowsI : It → List Nat
  | .box cs => TV.rowss cs
  | _ => []

def passCI (t : S) : It → Prop
  | .box cs => TV.passCs t cs
  | _ => True

theorem passs_one {t : S} {ν : List Pl} : ∀ {vs vs' : List TV}, TV.passs t ν vs = some vs' → vs'.length = vs.length
  | [], vs', h => by simp only [TV.passs, Option.some.injEq] at h; subst h; rfl
  | v :: vs, vs', h => by
    simp only [TV.passs] at h
    split at h
    · rename_i h1 h2
      simp only [Option.some.injEq] at h; subst h
      simp [passs_one h2]
    · simp at h

theorem passCells {t : S} {ν : List Pl} {E : En} {us : List Value} : ∀ {o : Nat} {vs vs' : List TV}, (∀ id ∈ TV.rowss vs, ∀ e k es xs, t (.o id) = .row e k es true → toDss es = some xs → ∀ u, RelV E (.oref id es.length) u → Rep E (.sl xs) u) →
    TV.passs t ν vs = some vs' → TV.passCs t vs → CellsRel E us o vs → CellsRel (E.callee ν) us o vs'
  | o, [], vs', _, h, _, _ => by simp only [TV.passs, Option.some.injEq] at h; subst h; trivial
  | o, v :: vs, vs', hf, h, hc, ⟨⟨u, h1, h2, h3⟩, hr⟩ => by
    simp only [TV.passs] at h
    split at h
    · rename_i v1 vs1 g1 g2
      simp only [Option.some.injEq] at h; subst h
      simp only [TV.passCs, TV.rowss] at hc hf
      exact ⟨⟨u, h1, h2, pass_rel (fun id hid => hf id (List.mem_append_left _ hid)) g1 hc.1 h3⟩, passCells (fun id hid => hf id (List.mem_append_right _ hid)) g2 hc.2 hr⟩
    · simp at h

/-! ### back -/
mutual
def TV.back (ν : List Pl) (b : Nat) : TV → TV
  | .agg vs => .agg (TV.backs ν b vs)
  | .tup vs => .tup (TV.backs ν b vs)
  | .clo f vs => .clo f (TV.backs ν b vs)
  | .oref id n => .oref (b + id) n
  | .eptr id n i q => .eptr (b + id) n i q
  | .mref id => .mref (b + id)
  | .ptr (.o id) q => .ptr (.o (b + id)) q
  | .ptr (.x i) q => .ptr (ν.getD i (.s 0)) q
  | v => v
def TV.backs (ν : List Pl) (b : Nat) : List TV → List TV
  | [] => []
  | v :: vs => v.back ν b :: TV.backs ν b vs
end

def backI (ν : List Pl) (b : Nat) : It → It
  | .box cs => .box (TV.backs ν b cs)
  | .row e k es sh => .row e k (es.map (TV.backs ν b)) sh
  | i => i

mutual
theorem back_rel {ν : List Pl} {b : Nat} {E' E2 : En} (hr : ExtR E' E2) (hx : ∀ i b', E'.blk (.x i) = some b' → E2.blk (ν.getD i (.s 0)) = some b') (ho : ∀ id b', E'.blk (.o id) = some b' → E2.blk (.o (b + id)) = some b')
    (hv : ∀ id y, E'.val id = some y → E2.val (b + id) = some y) (hs : ∀ k, E'.blk (.s k) = none) : ∀ {v : TV} {u : Value}, RelV E' v u → RelV E2 (v.back ν b) u
  | .junk, u, _ => by simp only [TV.back, RelV]
  | .d x, u, h => by simp only [TV.back, RelV] at h ⊢; exact Rep.ext hr x u h
  | .c v, u, h => by simp only [TV.back, RelV] at h ⊢; exact h
  | .agg vs, u, h => by
    simp only [TV.back, RelV] at h ⊢
    obtain ⟨us, hu, h⟩ := h
    exact ⟨us, hu, backs_rel hr hx ho hv hs h⟩
  | .tup vs, u, h => by
    simp only [TV.back, RelV] at h ⊢
    obtain ⟨us, hu, h⟩ := h
    exact ⟨us, hu, backs_rel hr hx ho hv hs h⟩
  | .oref id n, u, h => by
    simp only [TV.back, RelV] at h ⊢
    obtain ⟨h1, k, c, v, h2, h3⟩ := h
    exact ⟨h1, k, c, v, hv _ _ h2, h3⟩
  | .ptr (.o id) q, u, h => by
    simp only [TV.back, RelV] at h ⊢
    obtain ⟨b', h1, h2⟩ := h
    exact ⟨b', ho _ _ h1, h2⟩
  | .ptr (.x i) q, u, h => by
    simp only [TV.back, RelV] at h ⊢
    obtain ⟨b', h1, h2⟩ := h
    exact ⟨b', hx _ _ h1, h2⟩
  | .ptr (.s i) q, u, h => by
    simp only [TV.back, RelV] at h ⊢
    obtain ⟨b', h1, h2⟩ := h
    rw [hs i] at h1; simp at h1
  | .ep e q, u, h => by
    simp only [TV.back, RelV] at h ⊢
    obtain ⟨b', o, hu, hc⟩ := h
    exact ⟨b', o, hu, RepCells.ext hr b' o e hc⟩
  | .eptr id n i q, u, h => by
    simp only [TV.back, RelV] at h ⊢
    obtain ⟨h1, k, c, v, h2, h3⟩ := h
    exact ⟨h1, k, c, v, hv _ _ h2, h3⟩
  | .mref id, u, h => by
    simp only [TV.back, RelV] at h ⊢
    obtain ⟨b', h1, h2⟩ := h
    exact ⟨b', ho _ _ h1, h2⟩
  | .sx xs, u, h => by
    simp only [TV.back, RelV] at h ⊢
    exact ⟨Rep.ext hr (.sl xs) u h.1, h.2⟩
  | .clo f vs, u, h => by
    simp only [TV.back, RelV] at h ⊢
    obtain ⟨us, hu, h⟩ := h
    exact ⟨us, hu, backs_rel hr hx ho hv hs h⟩
theorem backs_rel {ν : List Pl} {b : Nat} {E' E2 : En} (hr : ExtR E' E2) (hx : ∀ i b', E'.blk (.x i) = some b' → E2.blk (ν.getD i (.s 0)) = some b') (ho : ∀ id b', E'.blk (.o id) = some b' → E2.blk (.o (b + id)) = some b')
    (hv : ∀ id y, E'.val id = some y → E2.val (b + id) = some y) (hs : ∀ k, E'.blk (.s k) = none) : ∀ {vs : List TV} {us : List Value}, RelVs E' vs us → RelVs E2 (TV.backs ν b vs) us
  | [], us, h => by simpa only [TV.backs, RelVs] using h
  | v :: vs, us, h => by
    simp only [TV.backs, RelVs] at h ⊢
    obtain ⟨u, us', hu, h1, h2⟩ := h
    exact ⟨u, us', hu, back_rel hr hx ho hv hs h1, backs_rel hr hx ho hv hs h2⟩
end

theorem backs_length {ν : List Pl} {b : Nat} : ∀ vs : List TV, (TV.backs ν b vs).length = vs.length
  | [] => by simp only [TV.backs]
  | v :: vs => by simp only [TV.backs, List.length_cons, backs_length vs]

theorem backCells {ν : List Pl} {b : Nat} {E' E2 : En} (hb : ∀ {v : TV} {u : Value}, RelV E' v u → RelV E2 (v.back ν b) u) {us : List Value} : ∀ {o : Nat} {vs : List TV}, CellsRel E' us o vs → CellsRel E2 us o (TV.backs ν b vs)
  | _, [], _ => by simp only [TV.backs]; trivial
  | _, _ :: _, ⟨⟨u, h1, h2, h3⟩, r⟩ => by simp only [TV.backs]; exact ⟨⟨u, h1, h2, hb h3⟩, backCells hb r⟩

theorem backRow {ν : List Pl} {b : Nat} {E' E2 : En} (hb : ∀ {v : TV} {u : Value}, RelV E' v u → RelV E2 (v.back ν b) u) {us : List Value} {k : Nat} : ∀ {o : Nat} {es : List (List TV)}, RowRel E' us k o es → RowRel E2 us k o (es.map (TV.backs ν b))
  | _, [], _ => trivial
  | _, _ :: _, ⟨h1, h2, r⟩ => ⟨(backs_length _).trans h1, backCells hb h2, backRow hb r⟩

end
end Go.Tr
