/-
  Laws of the layer between the model and plain data (states, operations, calls, loops); none has a condition beyond those that stand in its own statement.
-/
import Derived.Test.YtkhneohilohhiaaT18
set_option linter.unusedSimpArgs false
namespace Go.Tr
open Go

/-! ### states as lists -/
def look : List (Pl × It) → S
  | [], _ => .none
  | (q, i) :: l, p => if p = q then i else look l p

def put1 (p : Pl) (i : It) : List (Pl × It) → List (Pl × It)
  | [] => [(p, i)]
  | (q, j) :: l => if p = q then (p, i) :: l else (q, j) :: put1 p i l

theorem upd_look (p : Pl) (i : It) : ∀ l : List (Pl × It), upd (look l) p i = look (put1 p i l)
  | [] => by funext q; simp [upd, look, put1]
  | (q, j) :: l => by
    funext r
    have ih := congrFun (upd_look p i l) r
    simp only [upd] at ih
    simp only [put1, upd, look]
    by_cases e : p = q
    · subst e
      simp only [if_true, look]
      by_cases h : r = p
      · simp [h]
      · simp [h]
    · simp only [if_neg e, look]
      by_cases h : r = q
      · subst h
        rw [if_neg (fun h => e h.symm)]; simp
      · rw [if_neg h, if_neg h]
        exact ih

def keptL (kp : Nat → Bool) : List (Pl × It) → List (Pl × It)
  | [] => []
  | (.s k, i) :: l => if kp k then (.s k, i) :: keptL kp l else keptL kp l
  | x :: l => x :: keptL kp l

theorem kept_look (kp : Nat → Bool) : ∀ l : List (Pl × It), kept kp (look l) = look (keptL kp l)
  | [] => by funext q; cases q <;> simp [kept, look, keptL]
  | (.s k, i) :: l => by
    funext r
    have ih := congrFun (kept_look kp l) r
    cases r with
    | s j =>
      simp only [kept] at ih
      simp only [keptL, kept, look]
      by_cases hk : kp k
      · rw [if_pos hk]
        simp only [look]
        by_cases hj : Pl.s j = Pl.s k
        · simp only [Pl.s.injEq] at hj; subst hj; simp [hk]
        · rw [if_neg hj, if_neg hj]; exact ih
      · rw [if_neg hk]
        by_cases hj : Pl.s j = Pl.s k
        · simp only [Pl.s.injEq] at hj; subst hj
          rw [if_neg hk] at ih
          rw [if_neg hk, ← ih]
        · rw [if_neg hj]; exact ih
    | o j =>
      simp only [kept] at ih ⊢
      simp only [keptL, look, reduceCtorEq, if_false]
      split
      · simp only [look, reduceCtorEq, if_false]; exact ih
      · exact ih
    | x j =>
      simp only [kept] at ih ⊢
      simp only [keptL, look, reduceCtorEq, if_false]
      split
      · simp only [look, reduceCtorEq, if_false]; exact ih
      · exact ih
  | (.o k, i) :: l => by
    funext r
    have ih := congrFun (kept_look kp l) r
    cases r with
    | s j => simp only [keptL, kept, look] at ih ⊢; simpa using ih
    | o j => simp only [keptL, kept, look] at ih ⊢; rw [ih]
    | x j => simp only [keptL, kept, look] at ih ⊢; simpa using ih
  | (.x k, i) :: l => by
    funext r
    have ih := congrFun (kept_look kp l) r
    cases r with
    | s j => simp only [keptL, kept, look] at ih ⊢; simpa using ih
    | o j => simp only [keptL, kept, look] at ih ⊢; simpa using ih
    | x j => simp only [keptL, kept, look] at ih ⊢; rw [ih]

/-! ### forgetting -/
def It.only (po : Nat → Prop) : It → Prop
  | .none => True
  | .v t => t.only po
  | .box cs => TV.onlys po cs
  | .row _ _ es _ => ∀ e ∈ es, TV.onlys po e
  | .mp _ => True

def En.res (E : En) (ids : List Nat) : En :=
  { E with blk := fun p => match p with | .o k => if k ∈ ids then E.blk (.o k) else none | p => E.blk p, val := fun k => if k ∈ ids then E.val k else none }

theorem En.res_ext (E : En) (ids : List Nat) : Ext (· ∈ ids) E (E.res ids) :=
  ⟨fun _ _ h => h, fun _ _ _ => rfl, fun id b h hb => by simp only [En.res, if_pos h]; exact hb, fun _ _ h => h, fun _ _ h => h, fun id k c v h hv => ⟨c, v, by simp only [En.res, if_pos h]; exact hv, Nat.le_refl _, fun _ => rfl⟩⟩

theorem En.res_own {E : En} {ids : List Nat} {p : Pl} {b : Nat} (h : (E.res ids).own p = some b) : E.own p = some b ∧ ∀ k, p = .o k → k ∈ ids := by
  cases p with
  | o k =>
    by_cases hk : k ∈ ids
    · refine ⟨?_, fun j e => by simp only [Pl.o.injEq] at e; subst e; exact hk⟩
      have : (E.res ids).own (.o k) = E.own (.o k) := En.own_eq (by simp only [En.res, if_pos hk]) (fun id e => by simp only [Pl.o.injEq] at e; subst e; simp only [En.res, if_pos hk])
      rwa [this] at h
    · simp [En.own, En.res, hk] at h
  | s k => exact ⟨h, fun _ e => by simp at e⟩
  | x k => exact ⟨h, fun _ e => by simp at e⟩

theorem CellsRel.ext {po : Nat → Prop} {E E' : En} (h : Ext po E E') {us : List Value} : ∀ {o : Nat} {ts : List TV}, TV.onlys po ts → CellsRel E us o ts → CellsRel E' us o ts
  | _, [], _, _ => trivial
  | _, _ :: _, hp, ⟨⟨u, h1, h2, h3⟩, r⟩ => by
    simp only [TV.onlys] at hp
    exact ⟨⟨u, h1, h2, RelV.ext h _ _ hp.1 h3⟩, CellsRel.ext h hp.2 r⟩

theorem RowRel.ext {po : Nat → Prop} {E E' : En} (h : Ext po E E') {us : List Value} {k : Nat} : ∀ {o : Nat} {es : List (List TV)}, (∀ e ∈ es, TV.onlys po e) → RowRel E us k o es → RowRel E' us k o es
  | _, [], _, _ => trivial
  | _, _ :: _, hp, ⟨h1, h2, r⟩ => ⟨h1, CellsRel.ext h (hp _ (by simp)) h2, RowRel.ext h (fun e he => hp e (by simp [he])) r⟩

theorem HInv.res {E : En} {t t' : S} {ids : List Nat} (h : HInv E t) (ho : ∀ id, id ∈ ids → t' (.o id) = t (.o id)) (hn : ∀ id, id ∉ ids → t' (.o id) = .none) (hx : ∀ i, t' (.x i) = t (.x i))
    (hc : ∀ p, (∀ k, p ≠ .s k) → (t' p).only (· ∈ ids)) : HInv (E.res ids) t' := by
  have x := En.res_ext E ids
  refine ⟨fun p hp => ?_, fun k => h.frees k, fun p q b h1 h2 => h.inj p q b (En.res_own h1).1 (En.res_own h2).1, fun p b h1 => h.size p b (En.res_own h1).1, fun b o h1 => h.stsz b o h1, fun b o h1 p h2 => ?_⟩
  · have hcp := hc p hp
    have hit := h.item p hp
    cases p with
    | s k => exact absurd rfl (hp k)
    | o k =>
      by_cases hk : k ∈ ids
      · rw [ho k hk] at hcp ⊢
        have hb : (E.res ids).blk (.o k) = E.blk (.o k) := by simp only [En.res, if_pos hk]
        have hv : (E.res ids).val k = E.val k := by simp only [En.res, if_pos hk]
        cases hi : t (.o k) with
        | none => rw [hi] at hit; exact fun id e => by simp only [Pl.o.injEq] at e; subst e; rw [hb, hv]; exact hit k rfl
        | v _ => rw [hi] at hit; exact hit
        | box cs =>
          rw [hi] at hit hcp
          obtain ⟨h0, b, ty, us, h1, h2, h3, h4⟩ := hit
          exact ⟨fun id e => by simp only [Pl.o.injEq] at e; subst e; rw [hv]; exact h0 k rfl, b, ty, us, hb.trans h1, h2, h3, CellsRel.ext x hcp h4⟩
        | row e k' es sh =>
          rw [hi] at hit hcp
          obtain ⟨h0, id, v, us, e1, h1, h2, h3⟩ := hit
          simp only [Pl.o.injEq] at e1; subst e1
          exact ⟨hb.trans h0, k, v, us, rfl, hv.trans h1, h2, RowRel.ext x hcp h3⟩
        | mp es =>
          rw [hi] at hit
          obtain ⟨h0, b, l, clock, h1, h2, h3, h4⟩ := hit
          exact ⟨fun id e => by simp only [Pl.o.injEq] at e; subst e; rw [hv]; exact h0 k rfl, b, l, clock, hb.trans h1, h2, h3.ext x.r, h4⟩
      · rw [hn k hk]
        exact fun id e => by simp only [Pl.o.injEq] at e; subst e; simp [En.res, hk]
    | x k =>
      rw [hx k] at hcp ⊢
      cases hi : t (.x k) with
      | none => exact fun id e => by simp at e
      | v _ => rw [hi] at hit; exact hit
      | box cs =>
        rw [hi] at hit hcp
        obtain ⟨h0, b, ty, us, h1, h2, h3, h4⟩ := hit
        exact ⟨fun id e => by simp at e, b, ty, us, h1, h2, h3, CellsRel.ext x hcp h4⟩
      | row e k' es sh =>
        rw [hi] at hit
        obtain ⟨_, id, _, _, e1, _⟩ := hit
        simp at e1
      | mp es =>
        rw [hi] at hit
        obtain ⟨h0, b, l, clock, h1, h2, h3, h4⟩ := hit
        exact ⟨fun id e => by simp at e, b, l, clock, h1, h2, h3.ext x.r, h4⟩
  · obtain ⟨g1, g2⟩ := En.res_own h2
    obtain ⟨e, k, es, g3, g4⟩ := h.sep b o h1 p g1
    refine ⟨e, k, es, ?_, g4⟩
    cases p with
    | o j => rw [ho j (g2 j rfl)]; exact g3
    | x j => rw [hx j]; exact g3
    | s j => have := h.frees j; simp [En.own, this] at g1

section
variable {P : Program} {A : Actv}

theorem Fr.res {E0 E : En} (h : Fr E0 E) (ids : List Nat) : Fr E0 (E.res ids) :=
  ⟨h.os, h.tape, h.output, h.size, h.old, h.xb, fun id b hb => h.new id b (En.res_own hb).1, h.st, h.newst⟩

/-- the objects, and the outer objects, of a list -/
def oIds : List (Pl × It) → List Nat
  | [] => []
  | (.o k, _) :: l => k :: oIds l
  | _ :: l => oIds l
def xIds : List (Pl × It) → List Nat
  | [] => []
  | (.x k, _) :: l => k :: xIds l
  | _ :: l => xIds l

theorem look_o {l : List (Pl × It)} {k : Nat} : k ∉ oIds l → look l (.o k) = .none := by
  induction l with
  | nil => intro _; rfl
  | cons x l ih =>
    obtain ⟨p, i⟩ := x
    intro h
    cases p with
    | o j =>
      simp only [oIds, List.mem_cons, not_or] at h
      simp only [look, Pl.o.injEq, if_neg h.1]
      exact ih h.2
    | s j => simp only [oIds] at h; simp only [look, reduceCtorEq, if_false]; exact ih h
    | x j => simp only [oIds] at h; simp only [look, reduceCtorEq, if_false]; exact ih h

theorem look_x {l : List (Pl × It)} {k : Nat} : k ∉ xIds l → look l (.x k) = .none := by
  induction l with
  | nil => intro _; rfl
  | cons x l ih =>
    obtain ⟨p, i⟩ := x
    intro h
    cases p with
    | x j =>
      simp only [xIds, List.mem_cons, not_or] at h
      simp only [look, Pl.x.injEq, if_neg h.1]
      exact ih h.2
    | s j => simp only [xIds] at h; simp only [look, reduceCtorEq, if_false]; exact ih h
    | o j => simp only [xIds] at h; simp only [look, reduceCtorEq, if_false]; exact ih h

theorem look_mem {l : List (Pl × It)} {p : Pl} : look l p = .none ∨ (p, look l p) ∈ l := by
  induction l with
  | nil => exact .inl rfl
  | cons x l ih =>
    obtain ⟨q, i⟩ := x
    simp only [look]
    by_cases e : p = q
    · subst e; simp
    · rw [if_neg e]
      exact ih.imp id fun h => List.mem_cons_of_mem _ h

theorem xIds_mem {l : List (Pl × It)} {k : Nat} {i : It} (h : (Pl.x k, i) ∈ l) : k ∈ xIds l := by
  induction l with
  | nil => simp at h
  | cons x l ih =>
    obtain ⟨q, j⟩ := x
    rcases List.mem_cons.1 h with h | h
    · simp only [Prod.mk.injEq] at h; obtain ⟨rfl, _⟩ := h; simp [xIds]
    · have := ih h
      cases q <;> simp [xIds, this]

theorem mem_xIds {l : List (Pl × It)} {k : Nat} (h : k ∈ xIds l) : ∃ i, (Pl.x k, i) ∈ l := by
  induction l with
  | nil => simp [xIds] at h
  | cons x l ih =>
    obtain ⟨q, j⟩ := x
    cases q with
    | x m =>
      simp only [xIds, List.mem_cons] at h
      rcases h with rfl | h
      · exact ⟨j, by simp⟩
      · obtain ⟨i, hi⟩ := ih h; exact ⟨i, by simp [hi]⟩
    | s m => simp only [xIds] at h; obtain ⟨i, hi⟩ := ih h; exact ⟨i, by simp [hi]⟩
    | o m => simp only [xIds] at h; obtain ⟨i, hi⟩ := ih h; exact ⟨i, by simp [hi]⟩

/-- l' holds nothing that t does not hold; what it holds stands by itself. -/
def Sub (t : S) (l' : List (Pl × It)) : Prop := (∀ x ∈ l', look l' x.1 = t x.1) ∧ ∀ x ∈ l', x.2.only (· ∈ oIds l')

theorem InvE.forget {t : S} {l' : List (Pl × It)} {a : Act} {E : En} (hi : InvE A t a E) (h : Sub t l') (hx : ∀ i, look l' (.x i) = t (.x i)) : InvE A (look l') a (E.res (oIds l')) := by
  have hget : ∀ p, look l' p = .none ∨ look l' p = t p := fun p => by
    rcases look_mem (l := l') (p := p) with h1 | h1
    · exact .inl h1
    · exact .inr (h.1 _ h1)
  have honly : ∀ p, (look l' p).only (· ∈ oIds l') := fun p => by
    rcases look_mem (l := l') (p := p) with h1 | h1
    · rw [h1]; trivial
    · exact h.2 _ h1
  have hoin : ∀ {k : Nat} {i : It} {l : List (Pl × It)}, k ∈ oIds l → ∃ i, (Pl.o k, i) ∈ l := by
    intro k i l
    induction l with
    | nil => intro h; simp [oIds] at h
    | cons x l ih =>
      obtain ⟨q, j⟩ := x
      intro h
      cases q with
      | o m =>
        simp only [oIds, List.mem_cons] at h
        rcases h with rfl | h
        · exact ⟨j, by simp⟩
        · obtain ⟨i, hi⟩ := ih h; exact ⟨i, by simp [hi]⟩
      | s m => simp only [oIds] at h; obtain ⟨i, hi⟩ := ih h; exact ⟨i, by simp [hi]⟩
      | x m => simp only [oIds] at h; obtain ⟨i, hi⟩ := ih h; exact ⟨i, by simp [hi]⟩
  refine ⟨hi.h.res (fun id hid => ?_) (fun id hid => look_o hid) hx (fun p _ => honly p), hi.fr.res _, fun k tv hk => ?_, hi.defers, hi.size⟩
  · obtain ⟨i, hm⟩ := hoin (i := .none) hid
    exact h.1 _ hm
  · have h1 := hget (.s k)
    rw [hk] at h1
    rcases h1 with h1 | h1
    · simp at h1
    · obtain ⟨u, h2, h3⟩ := hi.sl k tv h1.symm
      have h4 := honly (.s k)
      rw [hk] at h4
      exact ⟨u, h2, RelV.ext (En.res_ext E _) _ _ h4 h3⟩

theorem x_same {l l' : List (Pl × It)} (hs : ∀ x ∈ l', look l' x.1 = look l x.1) (hx : xIds l' = xIds l) (i : Nat) : look l' (.x i) = look l (.x i) := by
  by_cases h : i ∈ xIds l'
  · obtain ⟨it, hm⟩ := mem_xIds h
    exact hs _ hm
  · rw [look_x h, look_x (by rwa [← hx])]

theorem GS.forget {l l' : List (Pl × It)} (h : Sub (look l) l') (hx : xIds l' = xIds l) : GS A (look l) (look l') := fun _ _ ⟨E, hw, hi⟩ =>
  ⟨E.res (oIds l'), hw, hi.forget h (x_same h.1 hx)⟩

/-! ### ghost steps -/
/-- a nil slice in a slot becomes an empty row -/
theorem GS.own {t : S} {k : Nat} (e z : Nat) (hk : t (.s k) = .v (.c (.slice none 0 0))) (ho : t (.o k) = .none) : GS A t (upd (upd t (.o k) (.row e z [] false)) (.s k) (.v (.oref k 0))) := fun a w ⟨E, hw, hi⟩ => by
  obtain ⟨u, h1, h2⟩ := hi.sl k _ hk
  obtain ⟨E', hw', x, hi', hv⟩ := hi.newRow ho e z
  simp only [RelV] at h2
  refine ⟨E', hw'.trans hw, ⟨hi'.h.slot k _, hi'.fr, fun j tv hj => ?_, hi'.defers, hi'.size⟩⟩
  by_cases ej : j = k
  · subst ej
    simp only [upd, if_true, It.v.injEq] at hj
    subst hj
    exact ⟨u, h1, by simp only [RelV]; exact ⟨by rw [h2]; rfl, z, 0, _, hv, Nat.le_refl _, fun _ => h2⟩⟩
  · simp only [upd, Pl.s.injEq, ej, if_false, reduceCtorEq] at hj
    exact hi'.sl j tv (by simpa [upd] using hj)

/-- a row may be shown from now on (no more stores into it) -/
theorem GS.share {t : S} {id e k : Nat} {es : List (List TV)} {sh : Bool} {xs : List (List D)} (ht : t (.o id) = .row e k es sh) (hx : toDss es = some xs) : GS A t (upd t (.o id) (.row e k es true)) := fun a w ⟨E, hw, hi⟩ => by
  obtain ⟨E', hw', _, _, _, hi', _⟩ := hi.freeze ht hx
  exact ⟨E', hw'.trans hw, hi'⟩

/-- a row in a slot, seen as plain data -/
theorem GS.view {t : S} {s id n e k : Nat} {es : List (List TV)} {sh : Bool} {xs : List (List D)} (hs : t (.s s) = .v (.oref id n)) (ht : t (.o id) = .row e k es sh) (hn : n = es.length) (hx : toDss es = some xs) :
    GS A t (upd (upd t (.o id) (.row e k es true)) (.s s) (.v (.d (.sl xs)))) := fun a w ⟨E, hw, hi⟩ => by
  obtain ⟨u, h1, h2⟩ := hi.sl s _ hs
  obtain ⟨E', hw', x, _, _, hi', hr, _⟩ := hi.freeze ht hx
  subst hn
  refine ⟨E', hw'.trans hw, ⟨hi'.h.slot s _, hi'.fr, fun j tv hj => ?_, hi'.defers, hi'.size⟩⟩
  by_cases ej : j = s
  · subst ej
    simp only [upd, if_true, It.v.injEq] at hj
    subst hj
    exact ⟨u, h1, by simp only [RelV]; exact hr u h2⟩
  · simp only [upd, Pl.s.injEq, ej, if_false, reduceCtorEq] at hj
    exact hi'.sl j tv (by simpa [upd] using hj)

end
end Go.Tr
