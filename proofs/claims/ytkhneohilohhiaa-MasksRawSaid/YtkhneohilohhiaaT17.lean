/-
  Laws of the layer between the model and plain data (states, operations, calls, loops); none has a condition beyond those that stand in its own statement.
-/
import Derived.Test.YtkhneohilohhiaaT16
set_option linter.unusedSimpArgs false
namespace Go.Tr
open Go

def isObj : It → Bool
  | .box _ | .row _ _ _ _ | .mp _ => true
  | _ => false
def isBox : It → Bool
  | .box _ => true
  | _ => false
def isPl : Pl → Bool
  | .s _ => false
  | _ => true

def wx (ν' : List Pl) (b : Nat) : List Pl → List It → List (Pl × It)
  | p :: ν, i :: xs => (p, backI ν' b i) :: wx ν' b ν xs
  | _, _ => []

def wo (ν' : List Pl) (b : Nat) : List (Nat × It) → List (Pl × It)
  | [] => []
  | (j, i) :: l => (.o (b + j), backI ν' b i) :: wo ν' b l

theorem wx_get {ν' : List Pl} {b : Nat} {t : S} : ∀ {ν : List Pl} {xs : List It}, ν.Nodup → xs.length = ν.length → ∀ {i : Nat} {p : Pl} {it : It}, ν[i]? = some p → xs[i]? = some it → over t (wx ν' b ν xs) p = backI ν' b it
  | [], _, _, _, i, p, it, h, _ => by simp at h
  | q :: ν, [], _, hl, _, _, _, _, _ => by simp at hl
  | q :: ν, x :: xs, hn, hl, i, p, it, h, hx => by
    simp only [wx, over]
    rw [List.nodup_cons] at hn
    cases i with
    | zero => simp at h hx; subst h; subst hx; simp [upd]
    | succ i =>
      have hp : p ∈ ν := List.mem_of_getElem? (by simpa using h)
      have hne : p ≠ q := fun e => hn.1 (e ▸ hp)
      simp only [upd, if_neg hne]
      exact wx_get hn.2 (by simpa using hl) (by simpa using h) (by simpa using hx)

theorem wx_other {ν' : List Pl} {b : Nat} {t : S} : ∀ {ν : List Pl} {xs : List It} {p : Pl}, p ∉ ν → over t (wx ν' b ν xs) p = t p
  | [], _, _, _ => by simp only [wx, over]
  | _ :: _, [], _, _ => by simp only [wx, over]
  | q :: ν, x :: xs, p, h => by
    simp only [List.mem_cons, not_or] at h
    simp only [wx, over, upd, if_neg h.1]
    exact wx_other h.2

theorem lookI_mem {j : Nat} : ∀ {ro : List (Nat × It)}, j ∉ ro.map (·.1) → lookI ro j = .none
  | [], _ => rfl
  | (k, i) :: ro, h => by
    simp only [List.map_cons, List.mem_cons, not_or] at h
    simp only [lookI, if_neg h.1]
    exact lookI_mem h.2

theorem wo_get {ν' : List Pl} {b : Nat} {t : S} : ∀ {ro : List (Nat × It)} {j : Nat}, j ∈ ro.map (·.1) → over t (wo ν' b ro) (.o (b + j)) = backI ν' b (lookI ro j)
  | [], j, h => by simp at h
  | (k, i) :: ro, j, h => by
    simp only [wo, over, lookI]
    by_cases e : j = k
    · subst e; simp [upd]
    · simp only [List.map_cons, List.mem_cons, e, false_or] at h
      rw [if_neg e, upd, if_neg (by simp; omega)]
      exact wo_get h

theorem wo_other {ν' : List Pl} {b : Nat} {t : S} : ∀ {ro : List (Nat × It)} {p : Pl}, (∀ j ∈ ro.map (·.1), p ≠ .o (b + j)) → over t (wo ν' b ro) p = t p
  | [], _, _ => rfl
  | (k, i) :: ro, p, h => by
    have h1 := h k (by simp)
    simp only [wo, over, upd, if_neg h1]
    exact wo_other fun j hj => h j (by simp only [List.map_cons, List.mem_cons]; exact .inr hj)

theorem lookI_obj {ro : List (Nat × It)} (h : ∀ x ∈ ro, isObj x.2 = true) {j : Nat} (hj : j ∈ ro.map (·.1)) : isObj (lookI ro j) = true := by
  induction ro with
  | nil => simp at hj
  | cons x ro ih =>
    obtain ⟨k, i⟩ := x
    simp only [lookI]
    split
    · exact h (k, i) (by simp)
    · rename_i e
      simp only [List.map_cons, List.mem_cons, e, false_or] at hj
      exact ih (fun x hx => h x (by simp [hx])) hj

section
variable {P : Program} {A : Actv}

/-- the caller's memory behind a call -/
theorem InvE.called {t : S} {a : Act} {E : En} (hi : InvE A t a E) {ν : List Pl} {cxs cxs' : List It} {ro : List (Nat × It)} {b : Nat} (hν : ν.Nodup) (hνp : ∀ p ∈ ν, isPl p = true) (hI : passIs t ν ν = some cxs)
    (hl : cxs'.length = ν.length) (hbox : ∀ i ∈ cxs', isBox i = true) (hobj : ∀ x ∈ ro, isObj x.2 = true) (hfree : ∀ x ∈ ro, t (.o (b + x.1)) = .none)
    {r : TV} {u : Value} {E' : En} (hp : Post (E.callee ν) cxs' ro r u E') :
    ∃ E2 : En, E2.w = E'.w ∧ InvE A (over t (wx ν b ν cxs' ++ wo ν b ro)) a E2 ∧ RelV E2 (r.back ν b) u := by
  obtain ⟨hl0, hIs⟩ := passIs_spec hI
  -- the outer objects lie in boxes of the caller's
  have hνb : ∀ {i : Nat} {p : Pl}, ν[i]? = some p → ∃ cs, t p = .box cs := fun h => by
    obtain ⟨cs, _, h1, _⟩ := hIs _ _ h; exact ⟨cs, h1⟩
  have hνs : ∀ {p : Pl}, p ∈ ν → ∀ k, p ≠ .s k := fun hp k e => by subst e; have := hνp _ hp; simp [isPl] at this
  let nw : Nat → Option Nat := fun k => if b ≤ k ∧ (k - b) ∈ ro.map (·.1) then some (k - b) else none
  have hnw : ∀ {k j}, nw k = some j ↔ k = b + j ∧ j ∈ ro.map (·.1) := fun {k j} => by
    simp only [nw]
    constructor
    · intro h
      split at h
      · rename_i h1; simp only [Option.some.injEq] at h; subst h; exact ⟨by omega, h1.2⟩
      · simp at h
    · rintro ⟨rfl, h⟩
      rw [if_pos ⟨by omega, by rw [show b + j - b = j by omega]; exact h⟩]
      simp
  have hnewfree : ∀ {k j}, nw k = some j → t (.o k) = .none := fun h => by
    obtain ⟨rfl, h1⟩ := hnw.1 h
    obtain ⟨x, hx, rfl⟩ := List.mem_map.1 h1
    exact hfree x hx
  have hnewE : ∀ {k j}, nw k = some j → E.blk (.o k) = none ∧ E.val k = none := fun {k j} h => by
    have := hi.h.item (.o k) (by simp)
    rw [hnewfree h] at this
    exact this k rfl
  let E2 : En := { w := E'.w, St := E'.St, blk := fun p => match p with | .o k => (match nw k with | some j => E'.blk (.o j) | none => E.blk (.o k)) | p => E.blk p,
                   val := fun k => match nw k with | some j => E'.val j | none => E.val k }
  have hblk_old : ∀ {p : Pl}, (∀ k j, p = .o k → nw k ≠ some j) → E2.blk p = E.blk p := fun {p} h => by
    cases p with
    | o k =>
      simp only [E2]
      cases hn : nw k with
      | none => rfl
      | some j => exact absurd hn (h k j rfl)
    | s k => rfl
    | x k => rfl
  have hval_old : ∀ {k : Nat}, (∀ j, nw k ≠ some j) → E2.val k = E.val k := fun {k} h => by
    simp only [E2]
    cases hn : nw k with
    | none => rfl
    | some j => exact absurd hn (h j)
  have hblk_new : ∀ {k j : Nat}, nw k = some j → E2.blk (.o k) = E'.blk (.o j) ∧ E2.val k = E'.val j := fun {k j} h => by simp only [E2, h, and_self]
  have hown_old : ∀ {p : Pl}, (∀ k j, p = .o k → nw k ≠ some j) → E2.own p = E.own p := fun {p} h =>
    En.own_eq (hblk_old h) (fun id e => hval_old (fun j => h id j e))
  have hown_new : ∀ {k j : Nat}, nw k = some j → E2.own (.o k) = E'.own (.o j) := fun {k j} h => by
    obtain ⟨h1, h2⟩ := hblk_new h
    simp only [En.own, h1, h2]
  have hcx : ∀ i, (E.callee ν).blk (.x i) = (ν[i]?).bind E.blk := fun i => rfl
  -- a block of the callee's outer objects is one of the caller's boxes
  have hxblk : ∀ {i b'}, (E.callee ν).blk (.x i) = some b' → ∃ p, ν[i]? = some p ∧ E.blk p = some b' ∧ E.own p = some b' := fun {i b'} h => by
    rw [hcx] at h
    cases hp : ν[i]? with
    | none => simp [hp] at h
    | some p =>
      simp only [hp, Option.bind_some] at h
      exact ⟨p, rfl, h, by simp [En.own, h]⟩
  have hstold : ∀ {b' o}, E.St b' o → E'.w.heap[b']? = E.w.heap[b']? := fun {b' o} h => hp.fr.old b' (hi.h.stsz _ _ h) (fun i hx => by
    obtain ⟨p, h1, h2, h3⟩ := hxblk hx
    obtain ⟨cs, h4⟩ := hνb h1
    obtain ⟨e, k, es, h5, _⟩ := hi.h.sep _ _ h p h3
    rw [h4] at h5; simp at h5)
  have x : ExtA E E2 := by
    refine ⟨fun b' o h => hp.fr.st b' o h, fun b' o h => World.cell?_of_block (hstold h), fun id b' _ h => ?_, fun i b' h => h, fun i b' h => h, fun id k c v _ h => ⟨c, v, ?_, Nat.le_refl _, fun _ => rfl⟩⟩
    · rw [hblk_old]
      · exact h
      · rintro k j e hn
        simp only [Pl.o.injEq] at e; subst e
        rw [(hnewE hn).1] at h; simp at h
    · rw [hval_old]
      · exact h
      · intro j hn
        rw [(hnewE hn).2] at h; simp at h
  -- the callee's values, seen by the caller
  have hmem : ∀ {j : Nat}, (E'.blk (.o j) ≠ none ∨ E'.val j ≠ none) → j ∈ ro.map (·.1) := fun {j} h => by
    by_cases hj : j ∈ ro.map (·.1)
    · exact hj
    · have := hp.h.item (.o j) (by simp)
      simp only [rlook, lookI_mem hj] at this
      obtain ⟨h1, h2⟩ := this j rfl
      rcases h with h | h
      · exact absurd h1 h
      · exact absurd h2 h
  have hback : ∀ {v : TV} {u : Value}, RelV E' v u → RelV E2 (v.back ν b) u := fun {v u} h => by
    refine back_rel (E' := E') (E2 := E2) ⟨fun _ _ h => h, fun _ _ _ => rfl⟩ (fun i b' hb => ?_) (fun id b' hb => ?_) (fun id y hy => ?_) hp.h.frees h
    · rw [hp.fr.xb] at hb
      obtain ⟨p, h1, h2, h3⟩ := hxblk hb
      have hg : ν.getD i (.s 0) = p := by simp [List.getD, h1]
      rw [hg, hblk_old]
      · exact h2
      · rintro k j rfl hn
        rw [(hnewE hn).1] at h2; simp at h2
    · have hj := hmem (j := id) (.inl (by rw [hb]; simp))
      rw [(hblk_new (hnw.2 ⟨rfl, hj⟩)).1]; exact hb
    · have hj := hmem (j := id) (.inr (by rw [hy]; simp))
      rw [(hblk_new (hnw.2 ⟨rfl, hj⟩)).2]; exact hy
  -- the places that are written
  have hnwn : ∀ {p : Pl}, (∀ k j, p = .o k → nw k ≠ some j) → ∀ j ∈ ro.map (·.1), p ≠ .o (b + j) := fun h j hj e => h _ j e (hnw.2 ⟨rfl, hj⟩)
  have hνnew : ∀ {p : Pl}, p ∈ ν → ∀ k j, p = .o k → nw k ≠ some j := fun {p} hpν k j e hn => by
    subst e
    obtain ⟨i, hi'⟩ := List.getElem?_of_mem hpν
    obtain ⟨cs, h⟩ := hνb hi'
    rw [hnewfree hn] at h; simp at h
  have hval2 : ∀ p, over t (wx ν b ν cxs' ++ wo ν b ro) p = if p ∈ ν then over t (wx ν b ν cxs') p else over t (wo ν b ro) p := fun p => by
    rw [over_app]
    split
    · rename_i h
      obtain ⟨i, h1⟩ := List.getElem?_of_mem h
      have hil : i < cxs'.length := by rw [hl]; exact (List.getElem?_eq_some_iff.1 h1).1
      rw [wx_get hν hl h1 (List.getElem?_eq_getElem hil), wx_get hν hl h1 (List.getElem?_eq_getElem hil)]
    · rename_i h
      rw [wx_other h]
  have hold : ∀ {p : Pl}, p ∉ ν → (∀ k j, p = .o k → nw k ≠ some j) → over t (wx ν b ν cxs' ++ wo ν b ro) p = t p := fun h1 h2 => by
    rw [hval2, if_neg h1, wo_other (hnwn h2)]
  have hH : HInv E2 (over t (wx ν b ν cxs' ++ wo ν b ro)) := by
    refine ⟨fun p hps => ?_, fun k => hi.h.frees k, fun p q b' h1 h2 => ?_, fun p b' h1 => ?_, fun b' o h1 => hp.h.stsz b' o h1, fun b' o h1 p h2 => ?_⟩
    · by_cases hpν : p ∈ ν
      · obtain ⟨i, h1⟩ := List.getElem?_of_mem hpν
        have hil : i < cxs'.length := by rw [hl]; exact (List.getElem?_eq_some_iff.1 h1).1
        rw [hval2, if_pos hpν, wx_get hν hl h1 (List.getElem?_eq_getElem hil)]
        have hb := hbox cxs'[i] (List.getElem_mem hil)
        have hit := hp.h.item (.x i) (by simp)
        have hr : rlook cxs' ro (.x i) = cxs'[i] := by simp [rlook, List.getD, hil]
        rw [hr] at hit
        cases hc : cxs'[i] with
        | box cs =>
          rw [hc] at hit
          obtain ⟨_, b', ty, us, h2, h3, h4, h5⟩ := hit
          rw [hp.fr.xb] at h2
          obtain ⟨p', g1, g2, g3⟩ := hxblk h2
          rw [h1] at g1; simp only [Option.some.injEq] at g1; subst g1
          refine ⟨fun id e => ?_, b', ty, us, ?_, h3, by rw [h4, backs_length], backCells hback h5⟩
          · subst e
            rw [hval_old (fun j => hνnew hpν id j rfl)]
            obtain ⟨cs0, g4⟩ := hνb h1
            have := hi.h.item (.o id) (by simp)
            rw [g4] at this
            exact this.1 id rfl
          · rw [hblk_old (hνnew hpν)]; exact g2
        | none => rw [hc] at hb; simp [isBox] at hb
        | v _ => rw [hc] at hb; simp [isBox] at hb
        | row _ _ _ _ => rw [hc] at hb; simp [isBox] at hb
        | mp _ => rw [hc] at hb; simp [isBox] at hb
      · by_cases hn : ∃ k j, p = .o k ∧ nw k = some j
        · obtain ⟨k, j, rfl, hn⟩ := hn
          obtain ⟨rfl, hj⟩ := hnw.1 hn
          rw [hval2, if_neg hpν, wo_get hj]
          have ho := lookI_obj hobj hj
          have hit := hp.h.item (.o j) (by simp)
          simp only [rlook] at hit
          obtain ⟨hb1, hv1⟩ := hblk_new hn
          cases hc : lookI ro j with
          | box cs =>
            rw [hc] at hit
            obtain ⟨h0, b', ty, us, h2, h3, h4, h5⟩ := hit
            exact ⟨fun id e => by simp only [Pl.o.injEq] at e; subst e; rw [hv1]; exact h0 j rfl, b', ty, us, hb1.trans h2, h3, by rw [h4, backs_length], backCells hback h5⟩
          | row e k' es sh =>
            rw [hc] at hit
            obtain ⟨h0, id, v, us, e1, h2, h3, h4⟩ := hit
            simp only [Pl.o.injEq] at e1; subst e1
            exact ⟨hb1.trans h0, b + j, v, us, rfl, by rw [hv1, List.length_map]; exact h2, by rw [List.length_map]; exact h3, backRow hback h4⟩
          | mp es =>
            rw [hc] at hit
            obtain ⟨h0, b', l, clock, h2, h3, h4, h5⟩ := hit
            exact ⟨fun id e => by simp only [Pl.o.injEq] at e; subst e; rw [hv1]; exact h0 j rfl, b', l, clock, hb1.trans h2, h3, MapRel.ext (E := E') (E' := E2) ⟨fun _ _ h => h, fun _ _ _ => rfl⟩ h4, h5⟩
          | none => rw [hc] at ho; simp [isObj] at ho
          | v _ => rw [hc] at ho; simp [isObj] at ho
        · have hn' : ∀ k j, p = .o k → nw k ≠ some j := fun k j e h => hn ⟨k, j, e, h⟩
          rw [hold hpν hn']
          refine (hi.h.item p hps).up x (hblk_old hn') (fun id e => hval_old (fun j => hn' id j e)) (fun b' hb' => ?_)
          refine hp.fr.old b' (hi.h.size p b' hb') (fun i hx => ?_)
          obtain ⟨q, g1, g2, g3⟩ := hxblk hx
          have := hi.h.inj p q b' hb' g3
          subst this
          exact hpν (List.mem_of_getElem? g1)
    · by_cases n1 : ∃ k j, p = .o k ∧ nw k = some j <;> by_cases n2 : ∃ k j, q = .o k ∧ nw k = some j
      · obtain ⟨k, j, rfl, hn⟩ := n1
        obtain ⟨k', j', rfl, hn'⟩ := n2
        rw [hown_new hn] at h1; rw [hown_new hn'] at h2
        have := hp.h.inj _ _ b' h1 h2
        simp only [Pl.o.injEq] at this; subst this
        rw [(hnw.1 hn).1, (hnw.1 hn').1]
      · obtain ⟨k, j, rfl, hn⟩ := n1
        rw [hown_new hn] at h1
        rw [hown_old (fun k j e h => n2 ⟨k, j, e, h⟩)] at h2
        have g1 := hp.fr.new j b' h1
        have g2 := hi.h.size q b' h2
        simp only [En.callee] at g1; omega
      · obtain ⟨k, j, rfl, hn⟩ := n2
        rw [hown_new hn] at h2
        rw [hown_old (fun k j e h => n1 ⟨k, j, e, h⟩)] at h1
        have g1 := hp.fr.new j b' h2
        have g2 := hi.h.size p b' h1
        simp only [En.callee] at g1; omega
      · rw [hown_old (fun k j e h => n1 ⟨k, j, e, h⟩)] at h1
        rw [hown_old (fun k j e h => n2 ⟨k, j, e, h⟩)] at h2
        exact hi.h.inj p q b' h1 h2
    · by_cases n1 : ∃ k j, p = .o k ∧ nw k = some j
      · obtain ⟨k, j, rfl, hn⟩ := n1
        rw [hown_new hn] at h1
        exact hp.h.size _ b' h1
      · rw [hown_old (fun k j e h => n1 ⟨k, j, e, h⟩)] at h1
        exact Nat.lt_of_lt_of_le (hi.h.size p b' h1) hp.fr.size
    · by_cases n1 : ∃ k j, p = .o k ∧ nw k = some j
      · obtain ⟨k, j, rfl, hn⟩ := n1
        rw [hown_new hn] at h2
        obtain ⟨e, k', es, g1, g2⟩ := hp.h.sep b' o h1 _ h2
        obtain ⟨rfl, hj⟩ := hnw.1 hn
        have hpν : Pl.o (b + j) ∉ ν := fun h => hνnew h _ j rfl hn
        refine ⟨e, k', es.map (TV.backs ν b), ?_, by simpa using g2⟩
        rw [hval2, if_neg hpν, wo_get hj]
        simp only [rlook] at g1
        rw [g1]; rfl
      · have n1' : ∀ k j, p = .o k → nw k ≠ some j := fun k j e h => n1 ⟨k, j, e, h⟩
        rw [hown_old n1'] at h2
        have hsz := hi.h.size p b' h2
        rcases hp.fr.newst b' o h1 with g1 | g1
        · obtain ⟨e, k, es, g2, g3⟩ := hi.h.sep b' o g1 p h2
          refine ⟨e, k, es, ?_, g3⟩
          rw [hold _ n1', g2]
          intro hpν
          obtain ⟨i, hi'⟩ := List.getElem?_of_mem hpν
          obtain ⟨cs, h⟩ := hνb hi'
          rw [h] at g2; simp at g2
        · simp only [En.callee] at g1; omega
  have hsl : ∀ k, over t (wx ν b ν cxs' ++ wo ν b ro) (.s k) = t (.s k) := fun k =>
    hold (fun h => hνs h k rfl) (fun _ _ e => by simp at e)
  refine ⟨E2, rfl, hi.step hH x (hi.fr.next hp.fr.os hp.fr.tape hp.fr.output hp.fr.size (fun b' h1 h2 => ?_) (fun i => rfl) (fun id b' h => ?_) (fun b' o h => hp.fr.st b' o h) (fun b' o h => ?_)) hsl, hback hp.rel⟩
  · refine hp.fr.old b' (Nat.lt_of_lt_of_le h1 hi.fr.size) (fun i hx => ?_)
    obtain ⟨q, g1, g2, g3⟩ := hxblk hx
    cases q with
    | s k => rw [hi.h.frees k] at g2; simp at g2
    | x j => exact h2 j ((hi.fr.xb j).symm.trans g2)
    | o k => have := hi.fr.new k b' g3; omega
  · cases hn : nw id with
    | some j =>
      rw [hown_new hn] at h
      exact .inr (hp.fr.new j b' h)
    | none =>
      rw [hown_old (fun k j e h => by simp only [Pl.o.injEq] at e; subst e; rw [hn] at h; simp at h)] at h
      exact .inl h
  · rcases hp.fr.newst b' o h with g | g
    · exact .inl g
    · exact .inr (Nat.le_trans hi.fr.size g)

end
end Go.Tr
