/-
  What functions of the program compute, stated as contracts over plain data; the conditions of each stand in its own statement.
-/
import Derived.Test.YtffjbciladpdlaaGreatZN09
import Derived.Scope
set_option linter.unusedSimpArgs false
namespace Go.Tr
open Go
def lift (A : Actv) (Q : Exit → S → Prop) (e : Exit) (a : Act) (w : World) : Prop := ∃ t, Inv A t a w ∧ Q e t
def AW (P : Program) (A : Actv) (c : Code) (Q : Exit → S → Prop) (t : S) : Prop := ∀ a w, Inv A t a w → c.wp P (lift A Q) a w
def thn (K : S → Prop) (Q : Exit → S → Prop) : Exit → S → Prop
 | .normal, t => K t
 | e, t => Q e t
def blkQ (id : Nat) (Q : Exit → S → Prop) : Exit → S → Prop
 | .exit id', t => if id' = id then Q .normal t else Q (.exit id') t
 | e, t => Q e t
def scpQ (Q : Exit → S → Prop) : Exit → S → Prop
 | .goto _, _ => False
 | e, t => Q e t
def condB : TV → Option Bool
 | .d (.bool b) => some b
 | _ => none
def ACond (b : Option Bool) (X Y : Prop) (_ : Tg X) (_ : Tg Y) : Prop :=
 match b with
 | some b => AIf b X Y .mk .mk
 | none => False
def ANoN (ow : List Nat) (ops : Array Oper) (X : Prop) : Bool → Prop
 | true => noNx ow ops = true ∧ X
 | false => X
theorem ANoN_true {ow : List Nat} {ops : Array Oper} {X : Prop} : ANoN ow ops X true = (noNx ow ops = true ∧ X) := rfl
theorem ANoN_false {ow : List Nat} {ops : Array Oper} {X : Prop} : ANoN ow ops X false = X := rfl
structure ALoop (P : Program) (A : Actv) (c : Code) (Q : Exit → S → Prop) (_g : Tg Q) (t : S) : Prop where
 aw : AW P A (.loop c) Q t
def kept (kp : Nat → Bool) (t : S) : S := fun p => match p with
 | .s k => if kp k then t p else .none
 | _ => t p
def awp (P : Program) (A : Actv) (ow : List Nat) (kp : Nat → Bool) : Code → (Q : Exit → S → Prop) → Tg Q → S → Prop
 | .skip, Q, _, t => Q .normal t
 | .label _, Q, _, t => Q .normal t
 | .seq x y, Q, g, t => awp P A ow kp x (thn (awp P A ow kp y Q g) Q) .mk t
 | .cond c x y, Q, g, t => ACond (condB (ev t c)) (awp P A ow kp x Q g t) (awp P A ow kp y Q g t) .mk .mk
 | .block id c, Q, _, t => awp P A ow kp c (blkQ id Q) .mk t
 | .exit id, Q, _, t => Q (.exit id) t
 | .goto l, Q, _, t => Q (.goto l) t
 | .ret, Q, _, t => Q .ret t
 | .region _ ops draw, Q, _, t => ANoN ow ops (AOps P A ow ops ops.toList 0 [] .mk t (fun L t' => AEnd P ops L (Q .normal (kept kp t')) draw) .mk) draw
 | .loop c, Q, g, t => ALoop P A c Q g t
 | .scope c, Q, _, t => awp P A ow kp c (scpQ Q) .mk t
 | _, _, _, _ => False
section
variable {P : Program} {A : Actv}
theorem Inv.kept {t : S} {a : Act} {w : World} (h : Inv A t a w) (kp : Nat → Bool) : Inv A (kept kp t) a w := by
 obtain ⟨E, hw, hi⟩ := h
 refine ⟨E, hw, ⟨⟨fun p hp => ?_, hi.h.frees, hi.h.inj, hi.h.size, hi.h.stsz, fun b o hst p hp => ?_, hi.h.gl⟩, hi.fr, fun k tv hk => ?_, hi.defers, hi.size⟩⟩
 ·have : Tr.kept kp t p = t p := by cases p <;> first | rfl | exact absurd rfl (hp _)
  rw [this]; exact hi.h.item p hp
 ·obtain ⟨e, k, es, h1, h2⟩ := hi.h.sep b o hst p hp
  refine ⟨e, k, es, ?_, h2⟩
  have hps : ∀ k, p ≠ .s k := by
   rintro k rfl
   simp [En.own, hi.h.frees k] at hp
  have : Tr.kept kp t p = t p := by cases p <;> first | rfl | exact absurd rfl (hps _)
  rw [this]; exact h1
 ·simp only [Tr.kept] at hk
  split at hk
  ·exact hi.sl k tv hk
  ·simp at hk
theorem AW.mono {c : Code} {Q Q' : Exit → S → Prop} {t : S} (h : AW P A c Q t) (hq : ∀ e t, Q e t → Q' e t) : AW P A c Q' t := fun a w hi =>
 Code.wp_mono (fun _ _ _ ⟨t, h1, h2⟩ => ⟨t, h1, hq _ _ h2⟩) (h a w hi)
theorem awp.sound {ow : List Nat} {kp : Nat → Bool} : ∀ {c : Code} {Q : Exit → S → Prop} {g : Tg Q} {t : S}, awp P A ow kp c Q g t → AW P A c Q t
 | .skip, Q, _, t, h => fun a w hi => wp_skip ⟨t, hi, by simpa only [awp] using h⟩
 | .label _, Q, _, t, h => fun a w hi => wp_label ⟨t, hi, by simpa only [awp] using h⟩
 | .seq x y, Q, _, t, h => fun a w hi => by
   simp only [awp] at h
   refine wp_seq (Code.wp_mono (fun e a w ⟨t', h1, h2⟩ => ?_) (awp.sound (c := x) h a w hi))
   cases e <;> first
    | exact awp.sound (c := y) h2 a w h1
    | exact ⟨t', h1, h2⟩
 | .cond c x y, Q, _, t, h => fun a w hi => by
   simp only [awp] at h
   obtain ⟨E, hw, hE⟩ := hi
   have hr := ev_rel hE c
   unfold condB at h
   split at h
   ·rename_i b hb
    rw [hb] at hr
    simp only [RelV, Rep] at hr
    unfold ACond at h
    cases b
    ·exact wp_cond_false hr (awp.sound (c := y) (h.no rfl) a w ⟨E, hw, hE⟩)
    ·exact wp_cond_true hr (awp.sound (c := x) (h.yes rfl) a w ⟨E, hw, hE⟩)
   ·exact h.elim
 | .block id c, Q, _, t, h => fun a w hi => by
   simp only [awp] at h
   refine wp_block (Code.wp_mono (fun e a w ⟨t', h1, h2⟩ => ?_) (awp.sound (c := c) h a w hi))
   cases e <;> first
    | exact ⟨t', h1, h2⟩
    | (simp only [Exit.inBlock]
       simp only [blkQ] at h2
       split
       ·rename_i he; rw [if_pos he] at h2; exact ⟨t', h1, h2⟩
       ·rename_i he; rw [if_neg he] at h2; exact ⟨t', h1, h2⟩)
 | .exit id, Q, _, t, h => fun a w hi => wp_exit ⟨t, hi, by simpa only [awp] using h⟩
 | .goto l, Q, _, t, h => fun a w hi => wp_goto ⟨t, hi, by simpa only [awp] using h⟩
 | .ret, Q, _, t, h => fun a w hi => wp_ret ⟨t, hi, by simpa only [awp] using h⟩
 | .region id ops draw, Q, _, t, h => fun a w hi => by
   simp only [awp] at h
   cases draw
   ·rw [ANoN_false] at h
    refine wp_region ?_
    have := AOps.wps (Q := lift A Q) (fun j => by simp) h (fun L t' h3 a w hi' => ⟨_, hi'.kept kp, h3⟩) a w hi
    rwa [Array.length_toList, ← List.range_eq_range'] at this
   ·rw [ANoN_true] at h
    obtain ⟨hn, h⟩ := h
    obtain ⟨L, t', h1, h2, h3⟩ := AOps.sound (fun o ho => by
     have := List.all_eq_true.1 hn o ho
     simpa using this) (fun j => by simp) h
    rw [Array.length_toList] at h2
    obtain ⟨h4, h5, h6⟩ := h3
    have h7 := drawF_ok h6.ok
    rw [drawOKs_eq] at h7
    simp only [List.append_nil, List.reverse_reverse] at h7
    exact region_draw h5 h1 h2 h7 (fun a w hi' => ⟨_, hi'.kept kp, h4⟩) a w hi
 | .loop c, Q, _, t, h => by simp only [awp] at h; exact h.aw
 | .rangeFunc .., _, _, _, h => by simp only [awp] at h
 | .scope c, Q, _, t, h => fun a w hi => by
   simp only [awp] at h
   refine wp_scope_straight (Code.wp_mono (fun e a w ⟨t', h1, h2⟩ => ?_) (awp.sound (c := c) h a w hi))
   cases e <;> first
    | exact ⟨t', h1, h2⟩
    | exact h2.elim
 | .refuse _, _, _, _, h => by simp only [awp] at h
def GS (A : Actv) (t t' : S) : Prop := ∀ a w, Inv A t a w → Inv A t' a w
theorem GS.refl (t : S) : GS A t t := fun _ _ h => h
theorem GS.trans {t u v : S} (h : GS A t u) (g : GS A u v) : GS A t v := fun a w x => g a w (h a w x)
theorem AW.ghost {c : Code} {Q : Exit → S → Prop} {t t' : S} (h : AW P A c Q t') (g : GS A t t') : AW P A c Q t := fun a w hi => h a w (g a w hi)
theorem least {p : Nat → Prop} (h : ∃ n, p n) : ∃ n, p n ∧ ∀ m, p m → n ≤ m := by
 obtain ⟨n, hn⟩ := h
 induction n using Nat.strongRecOn with
 | _ n ih =>
   by_cases hm : ∃ m, m < n ∧ p m
   ·obtain ⟨m, h1, h2⟩ := hm
    exact ih m h1 h2
   ·exact ⟨n, hn, fun m hm' => Nat.le_of_not_lt fun h => hm ⟨m, h, hm'⟩⟩
theorem AW.loop {ι : Type} {c : Code} {Q : Exit → S → Prop} {t : S} (st : ι → S) (μ : ι → Nat) (i0 : ι) (h0 : GS A t (st i0))
  (round : ∀ i, AW P A c (thn (fun t' => ∃ j, GS A t' (st j) ∧ μ j < μ i) Q) (st i)) : AW P A (.loop c) Q t := fun a w hi => by
 let p : Act → World → Nat → Prop := fun a w n => ∃ i, Inv A (st i) a w ∧ n = μ i
 let m : Act → World → Nat := fun a w => Classical.epsilon fun n => p a w n ∧ ∀ k, p a w k → n ≤ k
 have hm : ∀ a w, (∃ i, Inv A (st i) a w) → p a w (m a w) ∧ ∀ k, p a w k → m a w ≤ k := fun a w ⟨i, h⟩ =>
  Classical.epsilon_spec (p := fun n => p a w n ∧ ∀ k, p a w k → n ≤ k) (least ⟨μ i, i, h, rfl⟩)
 refine wp_loop (fun a w => ∃ i, Inv A (st i) a w) m ⟨i0, h0 a w hi⟩ fun a w hI => ?_
 obtain ⟨⟨i, h1, h2⟩, _⟩ := hm a w hI
 refine Code.wp_mono (fun e a' w' ⟨t', h3, h4⟩ => ?_) (round i a w h1)
 cases e <;> first
  | exact ⟨t', h3, h4⟩
  | (obtain ⟨j, hj, hlt⟩ := h4
     have hj' := hj a' w' h3
     refine ⟨⟨j, hj'⟩, ?_⟩
     have := (hm a' w' ⟨j, hj'⟩).2 (μ j) ⟨j, hj', rfl⟩
     omega)
end
end Go.Tr

namespace Go.Tr
open Go
def lookI : List (Nat × It) → Nat → It
 | [], _ => .none
 | (j, i) :: l, id => if id = j then i else lookI l id
def xlook (xs : List It) : S := fun p => match p with
 | .x i => xs.getD i .none
 | _ => .none
def rlook (xs : List It) (ro : List (Nat × It)) : S := fun p => match p with
 | .x i => xs.getD i .none
 | .o id => lookI ro id
 | _ => .none
structure Post (E : En) (xs : List It) (ro : List (Nat × It)) (r : TV) (u : Value) (E' : En) : Prop where
 h : HInv E' (rlook xs ro)
 fr : Fr E E'
 rel : RelV E' r u
def Contract (P : Program) (f : FuncId) (args : List TV) (xs : List It) (r : TV) (xs' : List It) (ro : List (Nat × It)) : Prop :=
 ∀ (E : En) (us : List Value), HInv E (xlook xs) → RelVs E args us → Calls P f us.toArray E.w fun e w' => ∃ u E', e = .returned u ∧ E'.w = w' ∧ Post E xs' ro r u E'
def idxP (p : Pl) : List Pl → Nat → Option Nat
 | [], _ => none
 | q :: l, i => if p = q then some i else idxP p l (i + 1)
theorem idxP_spec {p : Pl} : ∀ {l : List Pl} {i j : Nat}, idxP p l i = some j → i ≤ j ∧ l[j - i]? = some p
 | [], _, _, h => by simp [idxP] at h
 | q :: l, i, j, h => by
   simp only [idxP] at h
   split at h
   ·rename_i e; simp only [Option.some.injEq] at h; subst h; subst e; simp
   ·obtain ⟨h1, h2⟩ := idxP_spec h
    refine ⟨by omega, ?_⟩
    rw [show j - i = (j - (i + 1)) + 1 by omega]
    simpa using h2
mutual
def TV.pass (t : S) (ν : List Pl) : TV → Option TV
 | .junk => some .junk
 | .d x => some (.d x)
 | .c v => some (match v with | .slice none 0 0 => .d (.sl []) | v => .c v)
 | .agg vs => match TV.passs t ν vs with | some vs => some (.agg vs) | none => none
 | .tup _ => none
 | .oref id _ => match t (.o id) with
   | .row _ _ es true => match toDss es with | some xs => some (.d (.sl xs)) | none => none
   | _ => none
 | .ptr p q => match idxP p ν 0 with | some i => some (.ptr (.x i) q) | none => none
 | .ep e q => some (.ep e q)
 | .eptr _ _ _ _ => none
 | .mref _ => none
 | .sx _ => none
 | .osl _ _ _ => none
 | .clo f vs => match TV.passs t ν vs with | some vs => some (.clo f vs) | none => none
def TV.passs (t : S) (ν : List Pl) : List TV → Option (List TV)
 | [] => some []
 | v :: vs => match TV.pass t ν v, TV.passs t ν vs with
   | some v, some vs => some (v :: vs)
   | _, _ => none
end
mutual
def TV.passC (t : S) : TV → Prop
 | .agg vs | .clo _ vs => TV.passCs t vs
 | .oref id n => match t (.o id) with
   | .row _ _ es _ => n = es.length
   | _ => False
 | _ => True
def TV.passCs (t : S) : List TV → Prop
 | [] => True
 | v :: vs => v.passC t ∧ TV.passCs t vs
end
mutual
def TV.rows : TV → List Nat
 | .agg vs | .clo _ vs => TV.rowss vs
 | .oref id _ => [id]
 | _ => []
def TV.rowss : List TV → List Nat
 | [] => []
 | v :: vs => v.rows ++ TV.rowss vs
end
section
variable {P : Program} {A : Actv}
theorem InvE.freezeAll {t : S} {a : Act} : ∀ (ids : List Nat) {E : En}, InvE A t a E → (∀ id ∈ ids, ∃ e k es xs, t (.o id) = .row e k es true ∧ toDss es = some xs) →
  ∃ E1 : En, E1.w = E.w ∧ ExtA E E1 ∧ E1.blk = E.blk ∧ E1.val = E.val ∧ InvE A t a E1 ∧
   ∀ id ∈ ids, ∀ e k es xs, t (.o id) = .row e k es true → toDss es = some xs → ∀ u, RelV E1 (.oref id es.length) u → Rep E1 (.sl xs) u
 | [], E, hi, _ => ⟨E, rfl, Ext.refl _ _, rfl, rfl, hi, fun _ h => by simp at h⟩
 | id :: ids, E, hi, h => by
   obtain ⟨e, k, es, xs, h1, h2⟩ := h id (by simp)
   obtain ⟨E', hw, x, hb, hv, hi', hr, _⟩ := hi.freeze h1 h2
   have hsame : upd t (.o id) (.row e k es true) = t := by
    funext p; by_cases hp : p = .o id
    ·subst hp; simp [upd, h1]
    ·simp [upd, hp]
   rw [hsame] at hi'
   obtain ⟨E1, hw1, x1, hb1, hv1, hi1, hr1⟩ := InvE.freezeAll ids hi' (fun i hi => h i (by simp [hi]))
   refine ⟨E1, hw1.trans hw, x.trans x1, hb1.trans hb, hv1.trans hv, hi1, fun i hii e' k' es' xs' g1 g2 u hu => ?_⟩
   rcases List.mem_cons.1 hii with rfl | hii
   ·rw [h1] at g1
    simp only [It.row.injEq, and_true] at g1
    obtain ⟨rfl, rfl, rfl⟩ := g1
    rw [h2] at g2; simp only [Option.some.injEq] at g2; subst g2
    refine (hr u ?_).up x1
    simp only [RelV] at hu ⊢
    rw [hv1, hv] at hu
    exact hu
   ·exact hr1 i hii e' k' es' xs' g1 g2 u hu
def En.callee (E : En) (ν : List Pl) : En :=
 { w := E.w, St := E.St, blk := fun p => match p with | .x i => (ν[i]?).bind E.blk | _ => none, val := fun _ => none }
mutual
theorem pass_rel {t : S} {ν : List Pl} {E : En} : ∀ {v v' : TV} {u : Value},
  (∀ id ∈ v.rows, ∀ e k es xs, t (.o id) = .row e k es true → toDss es = some xs → ∀ u, RelV E (.oref id es.length) u → Rep E (.sl xs) u) → v.pass t ν = some v' → v.passC t → RelV E v u → RelV (E.callee ν) v' u
 | .junk, v', u, _, h, _, _ => by simp only [TV.pass, Option.some.injEq] at h; subst h; simp only [RelV]
 | .d x, v', u, _, h, _, hr => by
   simp only [TV.pass, Option.some.injEq] at h; subst h
   simp only [RelV] at hr ⊢
   exact Rep.ext (E := E) (E' := E.callee ν) ⟨fun _ _ h => h, fun _ _ _ => rfl⟩ x u hr
 | .c v, v', u, _, h, _, hr => by
   simp only [TV.pass, Option.some.injEq] at h
   simp only [RelV] at hr
   subst hr
   split at h
   ·subst h
    simp only [RelV, Rep]
    exact .inl ⟨rfl, _, _, rfl⟩
   ·subst h; simp only [RelV]
 | .agg vs, v', u, hf, h, hc, hr => by
   simp only [TV.pass] at h
   split at h
   ·rename_i vs' hv
    simp only [Option.some.injEq] at h; subst h
    simp only [RelV, TV.passC] at hr hc ⊢
    obtain ⟨us, hu, hs⟩ := hr
    exact ⟨us, hu, passs_rel (by simpa only [TV.rows] using hf) hv hc hs⟩
   ·simp at h
 | .tup vs, v', u, _, h, _, _ => by simp [TV.pass] at h
 | .oref id n, v', u, hf, h, hc, hr => by
   simp only [TV.pass] at h
   split at h
   ·rename_i e k es ht
    split at h
    ·rename_i xs hx
     simp only [Option.some.injEq] at h; subst h
     simp only [TV.passC, ht] at hc
     subst hc
     have := hf id (by simp [TV.rows]) e k es xs ht hx u hr
     simp only [RelV]
     exact Rep.ext (E := E) (E' := E.callee ν) ⟨fun _ _ h => h, fun _ _ _ => rfl⟩ _ u this
    ·simp at h
   ·simp at h
 | .ptr p q, v', u, _, h, _, hr => by
   simp only [TV.pass] at h
   split at h
   ·rename_i i hi
    simp only [Option.some.injEq] at h; subst h
    simp only [RelV] at hr ⊢
    obtain ⟨b, hb, hu⟩ := hr
    obtain ⟨_, h2⟩ := idxP_spec hi
    exact ⟨b, by simpa [En.callee, h2] using (by simpa using h2 : ν[i]? = some p) ▸ hb, hu⟩
   ·simp at h
 | .ep e q, v', u, _, h, _, hr => by
   simp only [TV.pass, Option.some.injEq] at h; subst h
   simp only [RelV] at hr ⊢
   obtain ⟨b, o, hu, hc⟩ := hr
   exact ⟨b, o, hu, RepCells.ext (E := E) (E' := E.callee ν) ⟨fun _ _ h => h, fun _ _ _ => rfl⟩ b o e hc⟩
 | .eptr _ _ _ _, v', u, _, h, _, _ => by simp [TV.pass] at h
 | .mref _, v', u, _, h, _, _ => by simp [TV.pass] at h
 | .sx _, v', u, _, h, _, _ => by simp [TV.pass] at h
 | .osl _ _ _, v', u, _, h, _, _ => by simp [TV.pass] at h
 | .clo f vs, v', u, hf, h, hc, hr => by
   simp only [TV.pass] at h
   split at h
   ·rename_i vs' hv
    simp only [Option.some.injEq] at h; subst h
    simp only [RelV, TV.passC] at hr hc ⊢
    obtain ⟨us, hu, hs⟩ := hr
    exact ⟨us, hu, passs_rel (by simpa only [TV.rows] using hf) hv hc hs⟩
   ·simp at h
theorem passs_rel {t : S} {ν : List Pl} {E : En} : ∀ {vs vs' : List TV} {us : List Value},
  (∀ id ∈ TV.rowss vs, ∀ e k es xs, t (.o id) = .row e k es true → toDss es = some xs → ∀ u, RelV E (.oref id es.length) u → Rep E (.sl xs) u) → TV.passs t ν vs = some vs' → TV.passCs t vs → RelVs E vs us → RelVs (E.callee ν) vs' us
 | [], vs', us, _, h, _, hr => by
   simp only [TV.passs, Option.some.injEq] at h; subst h
   simpa only [RelVs] using hr
 | v :: vs, vs', us, hf, h, hc, hr => by
   simp only [TV.passs] at h
   split at h
   ·rename_i v1 vs1 h1 h2
    simp only [Option.some.injEq] at h; subst h
    simp only [RelVs, TV.passCs, TV.rowss] at hr hc hf ⊢
    obtain ⟨u, us', hu, g1, g2⟩ := hr
    exact ⟨u, us', hu, pass_rel (fun id hid => hf id (List.mem_append_left _ hid)) h1 hc.1 g1, passs_rel (fun id hid => hf id (List.mem_append_right _ hid)) h2 hc.2 g2⟩
   ·simp at h
end
def passI (t : S) (ν : List Pl) : It → Option It
 | .box cs => match TV.passs t ν cs with | some cs => some (.box cs) | none => none
 | _ => none
def passIs (t : S) (ν : List Pl) : List Pl → Option (List It)
 | [] => some []
 | p :: l => match passI t ν (t p), passIs t ν l with
   | some i, some is => some (i :: is)
   | _, _ => none
theorem passIs_spec {t : S} {ν : List Pl} : ∀ {l : List Pl} {xs : List It}, passIs t ν l = some xs → xs.length = l.length ∧ ∀ (i : Nat) (p : Pl), l[i]? = some p → ∃ cs cs', t p = .box cs ∧ TV.passs t ν cs = some cs' ∧ xs[i]? = some (.box cs')
 | [], xs, h => by simp only [passIs, Option.some.injEq] at h; subst h; simp
 | p :: l, xs, h => by
   simp only [passIs] at h
   split at h
   ·rename_i it is h1 h2
    simp only [Option.some.injEq] at h; subst h
    obtain ⟨h3, h4⟩ := passIs_spec h2
    refine ⟨by simp [h3], fun i q hq => ?_⟩
    cases i with
    | zero =>
      simp at hq; subst hq
      unfold passI at h1
      split at h1
      ·rename_i cs hcs
       split at h1
       ·rename_i cs' hcs'
        simp only [Option.some.injEq] at h1; subst h1
        exact ⟨cs, cs', hcs, hcs', by simp⟩
       ·simp at h1
      ·simp at h1
    | succ i => simpa using h4 i q (by simpa using hq)
   ·simp at h
def rowsI : It → List Nat
 | .box cs => TV.rowss cs
 | _ => []
def passCI (t : S) : It → Prop
 | .box cs => TV.passCs t cs
 | _ => True
theorem passs_one {t : S} {ν : List Pl} : ∀ {vs vs' : List TV}, TV.passs t ν vs = some vs' → vs'.length = vs.length
 | [], vs', h => by simp only [TV.passs, Option.some.injEq] at h; subst h; rfl
 | v :: vs, vs', h => by
   simp only [TV.passs] at h
   split at h
   ·rename_i h1 h2
    simp only [Option.some.injEq] at h; subst h
    simp [passs_one h2]
   ·simp at h
theorem passCells {t : S} {ν : List Pl} {E : En} {us : List Value} : ∀ {o : Nat} {vs vs' : List TV}, (∀ id ∈ TV.rowss vs, ∀ e k es xs, t (.o id) = .row e k es true → toDss es = some xs → ∀ u, RelV E (.oref id es.length) u → Rep E (.sl xs) u) →
  TV.passs t ν vs = some vs' → TV.passCs t vs → CellsRel E us o vs → CellsRel (E.callee ν) us o vs'
 | o, [], vs', _, h, _, _ => by simp only [TV.passs, Option.some.injEq] at h; subst h; trivial
 | o, v :: vs, vs', hf, h, hc, ⟨⟨u, h1, h2, h3⟩, hr⟩ => by
   simp only [TV.passs] at h
   split at h
   ·rename_i v1 vs1 g1 g2
    simp only [Option.some.injEq] at h; subst h
    simp only [TV.passCs, TV.rowss] at hc hf
    exact ⟨⟨u, h1, h2, pass_rel (fun id hid => hf id (List.mem_append_left _ hid)) g1 hc.1 h3⟩, passCells (fun id hid => hf id (List.mem_append_right _ hid)) g2 hc.2 hr⟩
   ·simp at h
mutual
def TV.back (ν : List Pl) (b : Nat) : TV → TV
 | .agg vs => .agg (TV.backs ν b vs)
 | .tup vs => .tup (TV.backs ν b vs)
 | .clo f vs => .clo f (TV.backs ν b vs)
 | .oref id n => .oref (b + id) n
 | .eptr id n i q => .eptr (b + id) n i q
 | .mref id => .mref (b + id)
 | .osl id n j => .osl (b + id) n j
 | .ptr (.o id) q => .ptr (.o (b + id)) q
 | .ptr (.x i) q => .ptr (ν.getD i (.s 0)) q
 | v => v
def TV.backs (ν : List Pl) (b : Nat) : List TV → List TV
 | [] => []
 | v :: vs => v.back ν b :: TV.backs ν b vs
end
def backI (ν : List Pl) (b : Nat) : It → It
 | .box cs => .box (TV.backs ν b cs)
 | .row e k es sh => .row e k (es.map (TV.backs ν b)) sh
 | .que e k es => .que e k (es.map (TV.backs ν b))
 | .mpk es c pd s => .mpk (es.map fun x => (x.1, x.2.back ν b)) c pd s
 | i => i
mutual
theorem back_rel {ν : List Pl} {b : Nat} {E' E2 : En} (hr : ExtR E' E2) (hx : ∀ i b', E'.blk (.x i) = some b' → E2.blk (ν.getD i (.s 0)) = some b') (ho : ∀ id b', E'.blk (.o id) = some b' → E2.blk (.o (b + id)) = some b')
  (hv : ∀ id y, E'.val id = some y → E2.val (b + id) = some y) (hs : ∀ k, E'.blk (.s k) = none) : ∀ {v : TV} {u : Value}, RelV E' v u → RelV E2 (v.back ν b) u
 | .junk, u, _ => by simp only [TV.back, RelV]
 | .d x, u, h => by simp only [TV.back, RelV] at h ⊢; exact Rep.ext hr x u h
 | .c v, u, h => by simp only [TV.back, RelV] at h ⊢; exact h
 | .agg vs, u, h => by
   simp only [TV.back, RelV] at h ⊢
   obtain ⟨us, hu, h⟩ := h
   exact ⟨us, hu, backs_rel hr hx ho hv hs h⟩
 | .tup vs, u, h => by
   simp only [TV.back, RelV] at h ⊢
   obtain ⟨us, hu, h⟩ := h
   exact ⟨us, hu, backs_rel hr hx ho hv hs h⟩
 | .oref id n, u, h => by
   simp only [TV.back, RelV] at h ⊢
   obtain ⟨h1, k, c, v, h2, h3⟩ := h
   exact ⟨h1, k, c, v, hv _ _ h2, h3⟩
 | .ptr (.o id) q, u, h => by
   simp only [TV.back, RelV] at h ⊢
   obtain ⟨b', h1, h2⟩ := h
   exact ⟨b', ho _ _ h1, h2⟩
 | .ptr (.x i) q, u, h => by
   simp only [TV.back, RelV] at h ⊢
   obtain ⟨b', h1, h2⟩ := h
   exact ⟨b', hx _ _ h1, h2⟩
 | .ptr (.s i) q, u, h => by
   simp only [TV.back, RelV] at h ⊢
   obtain ⟨b', h1, h2⟩ := h
   rw [hs i] at h1; simp at h1
 | .ep e q, u, h => by
   simp only [TV.back, RelV] at h ⊢
   obtain ⟨b', o, hu, hc⟩ := h
   exact ⟨b', o, hu, RepCells.ext hr b' o e hc⟩
 | .eptr id n i q, u, h => by
   simp only [TV.back, RelV] at h ⊢
   obtain ⟨h1, k, c, v, h2, h3⟩ := h
   exact ⟨h1, k, c, v, hv _ _ h2, h3⟩
 | .mref id, u, h => by
   simp only [TV.back, RelV] at h ⊢
   obtain ⟨b', h1, h2⟩ := h
   exact ⟨b', ho _ _ h1, h2⟩
 | .sx xs, u, h => by
   simp only [TV.back, RelV] at h ⊢
   exact ⟨Rep.ext hr (.sl xs) u h.1, h.2⟩
 | .osl id n j, u, h => by
   simp only [TV.back, RelV] at h ⊢
   obtain ⟨h1, k, c, v, h2, h3⟩ := h
   exact ⟨h1, k, c, v, hv _ _ h2, h3⟩
 | .clo f vs, u, h => by
   simp only [TV.back, RelV] at h ⊢
   obtain ⟨us, hu, h⟩ := h
   exact ⟨us, hu, backs_rel hr hx ho hv hs h⟩
theorem backs_rel {ν : List Pl} {b : Nat} {E' E2 : En} (hr : ExtR E' E2) (hx : ∀ i b', E'.blk (.x i) = some b' → E2.blk (ν.getD i (.s 0)) = some b') (ho : ∀ id b', E'.blk (.o id) = some b' → E2.blk (.o (b + id)) = some b')
  (hv : ∀ id y, E'.val id = some y → E2.val (b + id) = some y) (hs : ∀ k, E'.blk (.s k) = none) : ∀ {vs : List TV} {us : List Value}, RelVs E' vs us → RelVs E2 (TV.backs ν b vs) us
 | [], us, h => by simpa only [TV.backs, RelVs] using h
 | v :: vs, us, h => by
   simp only [TV.backs, RelVs] at h ⊢
   obtain ⟨u, us', hu, h1, h2⟩ := h
   exact ⟨u, us', hu, back_rel hr hx ho hv hs h1, backs_rel hr hx ho hv hs h2⟩
end
theorem backs_length {ν : List Pl} {b : Nat} : ∀ vs : List TV, (TV.backs ν b vs).length = vs.length
 | [] => by simp only [TV.backs]
 | v :: vs => by simp only [TV.backs, List.length_cons, backs_length vs]
theorem backCells {ν : List Pl} {b : Nat} {E' E2 : En} (hb : ∀ {v : TV} {u : Value}, RelV E' v u → RelV E2 (v.back ν b) u) {us : List Value} : ∀ {o : Nat} {vs : List TV}, CellsRel E' us o vs → CellsRel E2 us o (TV.backs ν b vs)
 | _, [], _ => by simp only [TV.backs]; trivial
 | _, _ :: _, ⟨⟨u, h1, h2, h3⟩, r⟩ => by simp only [TV.backs]; exact ⟨⟨u, h1, h2, hb h3⟩, backCells hb r⟩
theorem backK {ν : List Pl} {b : Nat} {E' E2 : En} (hb : ∀ {v : TV} {u : Value}, RelV E' v u → RelV E2 (v.back ν b) u) : ∀ {es : List (List Int × TV)} {l : List MapEntry}, KRel E' es l → KRel E2 (es.map fun x => (x.1, x.2.back ν b)) l
 | [], l, h => h
 | (k, v) :: es, l, h => by
   obtain ⟨a, l', rfl, h1, h2, h3⟩ := h
   exact ⟨a, l', rfl, h1, hb h2, backK hb h3⟩
theorem backRow {ν : List Pl} {b : Nat} {E' E2 : En} (hb : ∀ {v : TV} {u : Value}, RelV E' v u → RelV E2 (v.back ν b) u) {us : List Value} {k : Nat} : ∀ {o : Nat} {es : List (List TV)}, RowRel E' us k o es → RowRel E2 us k o (es.map (TV.backs ν b))
 | _, [], _ => trivial
 | _, _ :: _, ⟨h1, h2, r⟩ => ⟨(backs_length _).trans h1, backCells hb h2, backRow hb r⟩
end
end Go.Tr

namespace Go.Tr
open Go
def isObj : It → Bool
 | .box _ | .row _ _ _ _ | .mp _ | .mpk _ _ _ _ => true
 | _ => false
def isBox : It → Bool
 | .box _ => true
 | _ => false
def isPl : Pl → Bool
 | .s _ => false
 | _ => true
def wx (ν' : List Pl) (b : Nat) : List Pl → List It → List (Pl × It)
 | p :: ν, i :: xs => (p, backI ν' b i) :: wx ν' b ν xs
 | _, _ => []
def wo (ν' : List Pl) (b : Nat) : List (Nat × It) → List (Pl × It)
 | [] => []
 | (j, i) :: l => (.o (b + j), backI ν' b i) :: wo ν' b l
theorem wx_get {ν' : List Pl} {b : Nat} {t : S} : ∀ {ν : List Pl} {xs : List It}, ν.Nodup → xs.length = ν.length → ∀ {i : Nat} {p : Pl} {it : It}, ν[i]? = some p → xs[i]? = some it → over t (wx ν' b ν xs) p = backI ν' b it
 | [], _, _, _, i, p, it, h, _ => by simp at h
 | q :: ν, [], _, hl, _, _, _, _, _ => by simp at hl
 | q :: ν, x :: xs, hn, hl, i, p, it, h, hx => by
   simp only [wx, over]
   rw [List.nodup_cons] at hn
   cases i with
   | zero => simp at h hx; subst h; subst hx; simp [upd]
   | succ i =>
     have hp : p ∈ ν := List.mem_of_getElem? (by simpa using h)
     have hne : p ≠ q := fun e => hn.1 (e ▸ hp)
     simp only [upd, if_neg hne]
     exact wx_get hn.2 (by simpa using hl) (by simpa using h) (by simpa using hx)
theorem wx_other {ν' : List Pl} {b : Nat} {t : S} : ∀ {ν : List Pl} {xs : List It} {p : Pl}, p ∉ ν → over t (wx ν' b ν xs) p = t p
 | [], _, _, _ => by simp only [wx, over]
 | _ :: _, [], _, _ => by simp only [wx, over]
 | q :: ν, x :: xs, p, h => by
   simp only [List.mem_cons, not_or] at h
   simp only [wx, over, upd, if_neg h.1]
   exact wx_other h.2
theorem lookI_mem {j : Nat} : ∀ {ro : List (Nat × It)}, j ∉ ro.map (·.1) → lookI ro j = .none
 | [], _ => rfl
 | (k, i) :: ro, h => by
   simp only [List.map_cons, List.mem_cons, not_or] at h
   simp only [lookI, if_neg h.1]
   exact lookI_mem h.2
theorem wo_get {ν' : List Pl} {b : Nat} {t : S} : ∀ {ro : List (Nat × It)} {j : Nat}, j ∈ ro.map (·.1) → over t (wo ν' b ro) (.o (b + j)) = backI ν' b (lookI ro j)
 | [], j, h => by simp at h
 | (k, i) :: ro, j, h => by
   simp only [wo, over, lookI]
   by_cases e : j = k
   ·subst e; simp [upd]
   ·simp only [List.map_cons, List.mem_cons, e, false_or] at h
    rw [if_neg e, upd, if_neg (by simp; omega)]
    exact wo_get h
theorem wo_other {ν' : List Pl} {b : Nat} {t : S} : ∀ {ro : List (Nat × It)} {p : Pl}, (∀ j ∈ ro.map (·.1), p ≠ .o (b + j)) → over t (wo ν' b ro) p = t p
 | [], _, _ => rfl
 | (k, i) :: ro, p, h => by
   have h1 := h k (by simp)
   simp only [wo, over, upd, if_neg h1]
   exact wo_other fun j hj => h j (by simp only [List.map_cons, List.mem_cons]; exact .inr hj)
theorem lookI_obj {ro : List (Nat × It)} (h : ∀ x ∈ ro, isObj x.2 = true) {j : Nat} (hj : j ∈ ro.map (·.1)) : isObj (lookI ro j) = true := by
 induction ro with
 | nil => simp at hj
 | cons x ro ih =>
   obtain ⟨k, i⟩ := x
   simp only [lookI]
   split
   ·exact h (k, i) (by simp)
   ·rename_i e
    simp only [List.map_cons, List.mem_cons, e, false_or] at hj
    exact ih (fun x hx => h x (by simp [hx])) hj
section
variable {P : Program} {A : Actv}
theorem InvE.called {t : S} {a : Act} {E : En} (hi : InvE A t a E) {ν : List Pl} {cxs cxs' : List It} {ro : List (Nat × It)} {b : Nat} (hν : ν.Nodup) (hνp : ∀ p ∈ ν, isPl p = true) (hI : passIs t ν ν = some cxs)
  (hl : cxs'.length = ν.length) (hbox : ∀ i ∈ cxs', isBox i = true) (hobj : ∀ x ∈ ro, isObj x.2 = true) (hfree : ∀ x ∈ ro, t (.o (b + x.1)) = .none)
  {r : TV} {u : Value} {E' : En} (hp : Post (E.callee ν) cxs' ro r u E') :
  ∃ E2 : En, E2.w = E'.w ∧ InvE A (over t (wx ν b ν cxs' ++ wo ν b ro)) a E2 ∧ RelV E2 (r.back ν b) u := by
 obtain ⟨hl0, hIs⟩ := passIs_spec hI
 have hνb : ∀ {i : Nat} {p : Pl}, ν[i]? = some p → ∃ cs, t p = .box cs := fun h => by
  obtain ⟨cs, _, h1, _⟩ := hIs _ _ h; exact ⟨cs, h1⟩
 have hνs : ∀ {p : Pl}, p ∈ ν → ∀ k, p ≠ .s k := fun hp k e => by subst e; have := hνp _ hp; simp [isPl] at this
 let nw : Nat → Option Nat := fun k => if b ≤ k ∧ (k - b) ∈ ro.map (·.1) then some (k - b) else none
 have hnw : ∀ {k j}, nw k = some j ↔ k = b + j ∧ j ∈ ro.map (·.1) := fun {k j} => by
  simp only [nw]
  constructor
  ·intro h
   split at h
   ·rename_i h1; simp only [Option.some.injEq] at h; subst h; exact ⟨by omega, h1.2⟩
   ·simp at h
  ·rintro ⟨rfl, h⟩
   rw [if_pos ⟨by omega, by rw [show b + j - b = j by omega]; exact h⟩]
   simp
 have hnewfree : ∀ {k j}, nw k = some j → t (.o k) = .none := fun h => by
  obtain ⟨rfl, h1⟩ := hnw.1 h
  obtain ⟨x, hx, rfl⟩ := List.mem_map.1 h1
  exact hfree x hx
 have hnewE : ∀ {k j}, nw k = some j → E.blk (.o k) = none ∧ E.val k = none := fun {k j} h => by
  have := hi.h.item (.o k) (by simp)
  rw [hnewfree h] at this
  exact this k rfl
 let E2 : En := { w := E'.w, St := E'.St, blk := fun p => match p with | .o k => (match nw k with | some j => E'.blk (.o j) | none => E.blk (.o k)) | p => E.blk p,
                  val := fun k => match nw k with | some j => E'.val j | none => E.val k }
 have hblk_old : ∀ {p : Pl}, (∀ k j, p = .o k → nw k ≠ some j) → E2.blk p = E.blk p := fun {p} h => by
  cases p with
  | o k =>
    simp only [E2]
    cases hn : nw k with
    | none => rfl
    | some j => exact absurd hn (h k j rfl)
  | s k => rfl
  | x k => rfl
 have hval_old : ∀ {k : Nat}, (∀ j, nw k ≠ some j) → E2.val k = E.val k := fun {k} h => by
  simp only [E2]
  cases hn : nw k with
  | none => rfl
  | some j => exact absurd hn (h j)
 have hblk_new : ∀ {k j : Nat}, nw k = some j → E2.blk (.o k) = E'.blk (.o j) ∧ E2.val k = E'.val j := fun {k j} h => by simp only [E2, h, and_self]
 have hown_old : ∀ {p : Pl}, (∀ k j, p = .o k → nw k ≠ some j) → E2.own p = E.own p := fun {p} h =>
  En.own_eq (hblk_old h) (fun id e => hval_old (fun j => h id j e))
 have hown_new : ∀ {k j : Nat}, nw k = some j → E2.own (.o k) = E'.own (.o j) := fun {k j} h => by
  obtain ⟨h1, h2⟩ := hblk_new h
  simp only [En.own, h1, h2]
 have hcx : ∀ i, (E.callee ν).blk (.x i) = (ν[i]?).bind E.blk := fun i => rfl
 have hno : ∀ j b', (E.callee ν).own (.o j) ≠ some b' := fun j b' h => by simp [En.own, En.callee] at h
 have hnew1 : ∀ {j b'}, E'.own (.o j) = some b' → (E.callee ν).w.heap.size ≤ b' := fun {j b'} h => (hp.fr.new j b' h).elim (fun h => h) (fun ⟨i, h⟩ => absurd h (hno i b'))
 have hxblk : ∀ {i b'}, (E.callee ν).blk (.x i) = some b' → ∃ p, ν[i]? = some p ∧ E.blk p = some b' ∧ E.own p = some b' := fun {i b'} h => by
  rw [hcx] at h
  cases hp : ν[i]? with
  | none => simp [hp] at h
  | some p =>
    simp only [hp, Option.bind_some] at h
    exact ⟨p, rfl, h, by simp [En.own, h]⟩
 have hstold : ∀ {b' o}, E.St b' o → E'.w.heap[b']? = E.w.heap[b']? := fun {b' o} h => hp.fr.old b' (hi.h.stsz _ _ h) (fun i hx => by
  obtain ⟨p, h1, h2, h3⟩ := hxblk hx
  obtain ⟨cs, h4⟩ := hνb h1
  obtain ⟨e, k, es, h5, _⟩ := hi.h.sep _ _ h p h3
  rw [h4] at h5; simp at h5) (fun j => hno j b')
 have x : ExtA E E2 := by
  refine ⟨fun b' o h => hp.fr.st b' o h, fun b' o h => atW_of_block (hstold h), fun id b' _ h => ?_, fun i b' h => h, fun i b' h => h, fun id k c v _ h => ⟨c, v, ?_, Nat.le_refl _, fun _ => rfl⟩⟩
  ·rw [hblk_old]
   ·exact h
   ·rintro k j e hn
    simp only [Pl.o.injEq] at e; subst e
    rw [(hnewE hn).1] at h; simp at h
  ·rw [hval_old]
   ·exact h
   ·intro j hn
    rw [(hnewE hn).2] at h; simp at h
 have hmem : ∀ {j : Nat}, (E'.blk (.o j) ≠ none ∨ E'.val j ≠ none) → j ∈ ro.map (·.1) := fun {j} h => by
  by_cases hj : j ∈ ro.map (·.1)
  ·exact hj
  ·have := hp.h.item (.o j) (by simp)
   simp only [rlook, lookI_mem hj] at this
   obtain ⟨h1, h2⟩ := this j rfl
   rcases h with h | h
   ·exact absurd h1 h
   ·exact absurd h2 h
 have hback : ∀ {v : TV} {u : Value}, RelV E' v u → RelV E2 (v.back ν b) u := fun {v u} h => by
  refine back_rel (E' := E') (E2 := E2) ⟨fun _ _ h => h, fun _ _ _ => rfl⟩ (fun i b' hb => ?_) (fun id b' hb => ?_) (fun id y hy => ?_) hp.h.frees h
  ·rw [hp.fr.xb] at hb
   obtain ⟨p, h1, h2, h3⟩ := hxblk hb
   have hg : ν.getD i (.s 0) = p := by simp [List.getD, h1]
   rw [hg, hblk_old]
   ·exact h2
   ·rintro k j rfl hn
    rw [(hnewE hn).1] at h2; simp at h2
  ·have hj := hmem (j := id) (.inl (by rw [hb]; simp))
   rw [(hblk_new (hnw.2 ⟨rfl, hj⟩)).1]; exact hb
  ·have hj := hmem (j := id) (.inr (by rw [hy]; simp))
   rw [(hblk_new (hnw.2 ⟨rfl, hj⟩)).2]; exact hy
 have hnwn : ∀ {p : Pl}, (∀ k j, p = .o k → nw k ≠ some j) → ∀ j ∈ ro.map (·.1), p ≠ .o (b + j) := fun h j hj e => h _ j e (hnw.2 ⟨rfl, hj⟩)
 have hνnew : ∀ {p : Pl}, p ∈ ν → ∀ k j, p = .o k → nw k ≠ some j := fun {p} hpν k j e hn => by
  subst e
  obtain ⟨i, hi'⟩ := List.getElem?_of_mem hpν
  obtain ⟨cs, h⟩ := hνb hi'
  rw [hnewfree hn] at h; simp at h
 have hval2 : ∀ p, over t (wx ν b ν cxs' ++ wo ν b ro) p = if p ∈ ν then over t (wx ν b ν cxs') p else over t (wo ν b ro) p := fun p => by
  rw [over_app]
  split
  ·rename_i h
   obtain ⟨i, h1⟩ := List.getElem?_of_mem h
   have hil : i < cxs'.length := by rw [hl]; exact (List.getElem?_eq_some_iff.1 h1).1
   rw [wx_get hν hl h1 (List.getElem?_eq_getElem hil), wx_get hν hl h1 (List.getElem?_eq_getElem hil)]
  ·rename_i h
   rw [wx_other h]
 have hold : ∀ {p : Pl}, p ∉ ν → (∀ k j, p = .o k → nw k ≠ some j) → over t (wx ν b ν cxs' ++ wo ν b ro) p = t p := fun h1 h2 => by
  rw [hval2, if_neg h1, wo_other (hnwn h2)]
 have hH : HInv E2 (over t (wx ν b ν cxs' ++ wo ν b ro)) := by
  refine ⟨fun p hps => ?_, fun k => hi.h.frees k, fun p q b' h1 h2 => ?_, fun p b' h1 => ?_, fun b' o h1 => hp.h.stsz b' o h1, fun b' o h1 p h2 => ?_, fun y hy => RepCells.ext x.r _ _ _ (hi.h.gl y hy)⟩
  ·by_cases hpν : p ∈ ν
   ·obtain ⟨i, h1⟩ := List.getElem?_of_mem hpν
    have hil : i < cxs'.length := by rw [hl]; exact (List.getElem?_eq_some_iff.1 h1).1
    rw [hval2, if_pos hpν, wx_get hν hl h1 (List.getElem?_eq_getElem hil)]
    have hb := hbox cxs'[i] (List.getElem_mem hil)
    have hit := hp.h.item (.x i) (by simp)
    have hr : rlook cxs' ro (.x i) = cxs'[i] := by simp [rlook, List.getD, hil]
    rw [hr] at hit
    cases hc : cxs'[i] with
    | box cs =>
      rw [hc] at hit
      obtain ⟨_, b', ty, us, h2, h3, h4, h5⟩ := hit
      rw [hp.fr.xb] at h2
      obtain ⟨p', g1, g2, g3⟩ := hxblk h2
      rw [h1] at g1; simp only [Option.some.injEq] at g1; subst g1
      refine ⟨fun id e => ?_, b', ty, us, ?_, h3, by rw [h4, backs_length], backCells hback h5⟩
      ·subst e
       rw [hval_old (fun j => hνnew hpν id j rfl)]
       obtain ⟨cs0, g4⟩ := hνb h1
       have := hi.h.item (.o id) (by simp)
       rw [g4] at this
       exact this.1 id rfl
      ·rw [hblk_old (hνnew hpν)]; exact g2
    | none => rw [hc] at hb; simp [isBox] at hb
    | v _ => rw [hc] at hb; simp [isBox] at hb
    | row _ _ _ _ => rw [hc] at hb; simp [isBox] at hb
    | que _ _ _ => rw [hc] at hb; simp [isBox] at hb
    | mp _ => rw [hc] at hb; simp [isBox] at hb
    | mpk _ _ _ _ => rw [hc] at hb; simp [isBox] at hb
    | mit _ _ _ _ => rw [hc] at hb; simp [isBox] at hb
    | mpz _ _ => rw [hc] at hb; simp [isBox] at hb
   ·by_cases hn : ∃ k j, p = .o k ∧ nw k = some j
    ·obtain ⟨k, j, rfl, hn⟩ := hn
     obtain ⟨rfl, hj⟩ := hnw.1 hn
     rw [hval2, if_neg hpν, wo_get hj]
     have ho := lookI_obj hobj hj
     have hit := hp.h.item (.o j) (by simp)
     simp only [rlook] at hit
     obtain ⟨hb1, hv1⟩ := hblk_new hn
     cases hc : lookI ro j with
     | box cs =>
       rw [hc] at hit
       obtain ⟨h0, b', ty, us, h2, h3, h4, h5⟩ := hit
       exact ⟨fun id e => by simp only [Pl.o.injEq] at e; subst e; rw [hv1]; exact h0 j rfl, b', ty, us, hb1.trans h2, h3, by rw [h4, backs_length], backCells hback h5⟩
     | row e k' es sh =>
       rw [hc] at hit
       obtain ⟨h0, id, v, us, e1, h2, h3, h4⟩ := hit
       simp only [Pl.o.injEq] at e1; subst e1
       exact ⟨hb1.trans h0, b + j, v, us, rfl, by rw [hv1, List.length_map]; exact h2, by rw [List.length_map]; exact h3, backRow hback h4⟩
     | mp es =>
       rw [hc] at hit
       obtain ⟨h0, b', l, clock, h2, h3, h4, h5⟩ := hit
       exact ⟨fun id e => by simp only [Pl.o.injEq] at e; subst e; rw [hv1]; exact h0 j rfl, b', l, clock, hb1.trans h2, h3, MapRel.ext (E := E') (E' := E2) ⟨fun _ _ h => h, fun _ _ _ => rfl⟩ h4, h5⟩
     | mpk es c pd s =>
       rw [hc] at hit
       obtain ⟨id, b', l, clock, l', ty, v, e1, h2, h3, h4, h5, h6, h7, h8, h9⟩ := hit
       simp only [Pl.o.injEq] at e1; subst e1
       exact ⟨b + j, b', l, clock, l', ty, v, rfl, hb1.trans h2, h3, h4, backK hback h5, h6, by rw [hv1]; exact h7, h8, h9⟩
     | mit _ _ _ _ => rw [hc] at ho; simp [isObj] at ho
     | mpz _ _ => rw [hc] at ho; simp [isObj] at ho
     | que _ _ _ => rw [hc] at ho; simp [isObj] at ho
     | none => rw [hc] at ho; simp [isObj] at ho
     | v _ => rw [hc] at ho; simp [isObj] at ho
    ·have hn' : ∀ k j, p = .o k → nw k ≠ some j := fun k j e h => hn ⟨k, j, e, h⟩
     rw [hold hpν hn']
     refine (hi.h.item p hps).up x (hblk_old hn') (fun id e => hval_old (fun j => hn' id j e)) (fun b' hb' => ?_)
     refine hp.fr.old b' (hi.h.size p b' hb') (fun i hx => ?_) (fun j => hno j b')
     obtain ⟨q, g1, g2, g3⟩ := hxblk hx
     have := hi.h.inj p q b' hb' g3
     subst this
     exact hpν (List.mem_of_getElem? g1)
  ·by_cases n1 : ∃ k j, p = .o k ∧ nw k = some j <;> by_cases n2 : ∃ k j, q = .o k ∧ nw k = some j
   ·obtain ⟨k, j, rfl, hn⟩ := n1
    obtain ⟨k', j', rfl, hn'⟩ := n2
    rw [hown_new hn] at h1; rw [hown_new hn'] at h2
    have := hp.h.inj _ _ b' h1 h2
    simp only [Pl.o.injEq] at this; subst this
    rw [(hnw.1 hn).1, (hnw.1 hn').1]
   ·obtain ⟨k, j, rfl, hn⟩ := n1
    rw [hown_new hn] at h1
    rw [hown_old (fun k j e h => n2 ⟨k, j, e, h⟩)] at h2
    have g1 := hnew1 h1
    have g2 := hi.h.size q b' h2
    simp only [En.callee] at g1; omega
   ·obtain ⟨k, j, rfl, hn⟩ := n2
    rw [hown_new hn] at h2
    rw [hown_old (fun k j e h => n1 ⟨k, j, e, h⟩)] at h1
    have g1 := hnew1 h2
    have g2 := hi.h.size p b' h1
    simp only [En.callee] at g1; omega
   ·rw [hown_old (fun k j e h => n1 ⟨k, j, e, h⟩)] at h1
    rw [hown_old (fun k j e h => n2 ⟨k, j, e, h⟩)] at h2
    exact hi.h.inj p q b' h1 h2
  ·by_cases n1 : ∃ k j, p = .o k ∧ nw k = some j
   ·obtain ⟨k, j, rfl, hn⟩ := n1
    rw [hown_new hn] at h1
    exact hp.h.size _ b' h1
   ·rw [hown_old (fun k j e h => n1 ⟨k, j, e, h⟩)] at h1
    exact Nat.lt_of_lt_of_le (hi.h.size p b' h1) hp.fr.size
  ·by_cases n1 : ∃ k j, p = .o k ∧ nw k = some j
   ·obtain ⟨k, j, rfl, hn⟩ := n1
    rw [hown_new hn] at h2
    obtain ⟨e, k', es, g1, g2⟩ := hp.h.sep b' o h1 _ h2
    obtain ⟨rfl, hj⟩ := hnw.1 hn
    have hpν : Pl.o (b + j) ∉ ν := fun h => hνnew h _ j rfl hn
    refine ⟨e, k', es.map (TV.backs ν b), ?_, by simpa using g2⟩
    rw [hval2, if_neg hpν, wo_get hj]
    simp only [rlook] at g1
    rw [g1]; rfl
   ·have n1' : ∀ k j, p = .o k → nw k ≠ some j := fun k j e h => n1 ⟨k, j, e, h⟩
    rw [hown_old n1'] at h2
    have hsz := hi.h.size p b' h2
    rcases hp.fr.newst b' o h1 with g1 | g1 | ⟨i, g1⟩
    ·obtain ⟨e, k, es, g2, g3⟩ := hi.h.sep b' o g1 p h2
     refine ⟨e, k, es, ?_, g3⟩
     rw [hold _ n1', g2]
     intro hpν
     obtain ⟨i, hi'⟩ := List.getElem?_of_mem hpν
     obtain ⟨cs, h⟩ := hνb hi'
     rw [h] at g2; simp at g2
    ·simp only [En.callee] at g1; omega
    ·exact absurd g1 (hno i b')
 have hsl : ∀ k, over t (wx ν b ν cxs' ++ wo ν b ro) (.s k) = t (.s k) := fun k =>
  hold (fun h => hνs h k rfl) (fun _ _ e => by simp at e)
 refine ⟨E2, rfl, hi.step hH x (hi.fr.next hp.fr.os hp.fr.tape hp.fr.output hp.fr.size (fun b' h1 h2 h3 => ?_) (fun i => rfl) (fun id b' h => ?_) (fun b' o h => hp.fr.st b' o h) (fun b' o h => ?_)) hsl, hback hp.rel⟩
 ·refine hp.fr.old b' (Nat.lt_of_lt_of_le h1 hi.fr.size) (fun i hx => ?_) (fun j => hno j b')
  obtain ⟨q, g1, g2, g3⟩ := hxblk hx
  cases q with
  | s k => rw [hi.h.frees k] at g2; simp at g2
  | x j => exact h2 j ((hi.fr.xb j).symm.trans g2)
  | o k => exact (hi.fr.new k b' g3).elim (fun h => by omega) (fun ⟨j, h⟩ => h3 j h)
 ·cases hn : nw id with
  | some j =>
    rw [hown_new hn] at h
    exact .inr (hnew1 h)
  | none =>
    rw [hown_old (fun k j e h => by simp only [Pl.o.injEq] at e; subst e; rw [hn] at h; simp at h)] at h
    exact .inl h
 ·rcases hp.fr.newst b' o h with g | g | ⟨i, g⟩
  ·exact .inl g
  ·exact .inr (.inl (Nat.le_trans hi.fr.size g))
  ·exact absurd g (hno i b')
end
end Go.Tr
