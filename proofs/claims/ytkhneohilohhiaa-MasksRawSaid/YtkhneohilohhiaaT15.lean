/-
  Laws of the layer between the model and plain data (states, operations, calls, loops); none has a condition beyond those that stand in its own statement.
-/
import Derived.Test.YtkhneohilohhiaaT14
set_option linter.unusedSimpArgs false
namespace Go.Tr
open Go

def lift (A : Actv) (Q : Exit → S → Prop) (e : Exit) (a : Act) (w : World) : Prop := ∃ t, Inv A t a w ∧ Q e t

def AW (P : Program) (A : Actv) (c : Code) (Q : Exit → S → Prop) (t : S) : Prop := ∀ a w, Inv A t a w → c.wp P (lift A Q) a w

def thn (K : S → Prop) (Q : Exit → S → Prop) : Exit → S → Prop
  | .normal, t => K t
  | e, t => Q e t

def blkQ (id : Nat) (Q : Exit → S → Prop) : Exit → S → Prop
  | .exit id', t => if id' = id then Q .normal t else Q (.exit id') t
  | e, t => Q e t

def condB : TV → Option Bool
  | .d (.bool b) => some b
  | _ => none

def ACond (b : Option Bool) (X Y : Prop) (_ : Tg X) (_ : Tg Y) : Prop :=
  match b with
  | some b => AIf b X Y .mk .mk
  | none => False

/-- a loop, marked -/
structure ALoop (P : Program) (A : Actv) (c : Code) (Q : Exit → S → Prop) (_g : Tg Q) (t : S) : Prop where
  aw : AW P A (.loop c) Q t

/-- Slots that are wanted no more. -/
def kept (kp : Nat → Bool) (t : S) : S := fun p => match p with
  | .s k => if kp k then t p else .none
  | _ => t p

/-- What is to be shown of a text, from a state: everything but loops and calls is reckoned. -/
def awp (P : Program) (A : Actv) (ow : List Nat) (kp : Nat → Bool) : Code → (Q : Exit → S → Prop) → Tg Q → S → Prop
  | .skip, Q, _, t => Q .normal t
  | .label _, Q, _, t => Q .normal t
  | .seq x y, Q, g, t => awp P A ow kp x (thn (awp P A ow kp y Q g) Q) .mk t
  | .cond c x y, Q, g, t => ACond (condB (ev t c)) (awp P A ow kp x Q g t) (awp P A ow kp y Q g t) .mk .mk
  | .block id c, Q, _, t => awp P A ow kp c (blkQ id Q) .mk t
  | .exit id, Q, _, t => Q (.exit id) t
  | .goto l, Q, _, t => Q (.goto l) t
  | .ret, Q, _, t => Q .ret t
  | .region _ ops draw, Q, _, t => AOps P A ow ops ops.toList 0 [] .mk t (fun L t' => AEnd P ops L (Q .normal (kept kp t')) draw) .mk
  | .loop c, Q, g, t => ALoop P A c Q g t
  | _, _, _, _ => False

section
variable {P : Program} {A : Actv}

theorem Inv.kept {t : S} {a : Act} {w : World} (h : Inv A t a w) (kp : Nat → Bool) : Inv A (kept kp t) a w := by
  obtain ⟨E, hw, hi⟩ := h
  refine ⟨E, hw, ⟨⟨fun p hp => ?_, hi.h.frees, hi.h.inj, hi.h.size, hi.h.stsz, fun b o hst p hp => ?_⟩, hi.fr, fun k tv hk => ?_, hi.defers, hi.size⟩⟩
  · have : Tr.kept kp t p = t p := by cases p <;> first | rfl | exact absurd rfl (hp _)
    rw [this]; exact hi.h.item p hp
  · obtain ⟨e, k, es, h1, h2⟩ := hi.h.sep b o hst p hp
    refine ⟨e, k, es, ?_, h2⟩
    have hps : ∀ k, p ≠ .s k := by
      rintro k rfl
      simp [En.own, hi.h.frees k] at hp
    have : Tr.kept kp t p = t p := by cases p <;> first | rfl | exact absurd rfl (hps _)
    rw [this]; exact h1
  · simp only [Tr.kept] at hk
    split at hk
    · exact hi.sl k tv hk
    · simp at hk

theorem AW.mono {c : Code} {Q Q' : Exit → S → Prop} {t : S} (h : AW P A c Q t) (hq : ∀ e t, Q e t → Q' e t) : AW P A c Q' t := fun a w hi =>
  Code.wp_mono (fun _ _ _ ⟨t, h1, h2⟩ => ⟨t, h1, hq _ _ h2⟩) (h a w hi)

theorem awp.sound {ow : List Nat} {kp : Nat → Bool} : ∀ {c : Code} {Q : Exit → S → Prop} {g : Tg Q} {t : S}, awp P A ow kp c Q g t → AW P A c Q t
  | .skip, Q, _, t, h => fun a w hi => wp_skip ⟨t, hi, by simpa only [awp] using h⟩
  | .label _, Q, _, t, h => fun a w hi => wp_label ⟨t, hi, by simpa only [awp] using h⟩
  | .seq x y, Q, _, t, h => fun a w hi => by
    simp only [awp] at h
    refine wp_seq (Code.wp_mono (fun e a w ⟨t', h1, h2⟩ => ?_) (awp.sound (c := x) h a w hi))
    cases e <;> first
      | exact awp.sound (c := y) h2 a w h1
      | exact ⟨t', h1, h2⟩
  | .cond c x y, Q, _, t, h => fun a w hi => by
    simp only [awp] at h
    obtain ⟨E, hw, hE⟩ := hi
    have hr := ev_rel hE c
    unfold condB at h
    split at h
    · rename_i b hb
      rw [hb] at hr
      simp only [RelV, Rep] at hr
      unfold ACond at h
      cases b
      · exact wp_cond_false hr (awp.sound (c := y) (h.no rfl) a w ⟨E, hw, hE⟩)
      · exact wp_cond_true hr (awp.sound (c := x) (h.yes rfl) a w ⟨E, hw, hE⟩)
    · exact h.elim
  | .block id c, Q, _, t, h => fun a w hi => by
    simp only [awp] at h
    refine wp_block (Code.wp_mono (fun e a w ⟨t', h1, h2⟩ => ?_) (awp.sound (c := c) h a w hi))
    cases e <;> first
      | exact ⟨t', h1, h2⟩
      | (simp only [Exit.inBlock]
         simp only [blkQ] at h2
         split
         · rename_i he; rw [if_pos he] at h2; exact ⟨t', h1, h2⟩
         · rename_i he; rw [if_neg he] at h2; exact ⟨t', h1, h2⟩)
  | .exit id, Q, _, t, h => fun a w hi => wp_exit ⟨t, hi, by simpa only [awp] using h⟩
  | .goto l, Q, _, t, h => fun a w hi => wp_goto ⟨t, hi, by simpa only [awp] using h⟩
  | .ret, Q, _, t, h => fun a w hi => wp_ret ⟨t, hi, by simpa only [awp] using h⟩
  | .region id ops draw, Q, _, t, h => fun a w hi => by
    simp only [awp] at h
    obtain ⟨L, t', h1, h2, h3⟩ := AOps.sound (fun j => by simp) h
    rw [Array.length_toList] at h2
    cases draw
    · exact region_plain h1 h2 (fun a w hi' => ⟨_, hi'.kept kp, h3⟩) a w hi
    · obtain ⟨h4, h5, h6⟩ := h3
      have h7 := drawF_ok h6.ok
      rw [drawOKs_eq] at h7
      simp only [List.append_nil, List.reverse_reverse] at h7
      exact region_draw h5 h1 h2 h7 (fun a w hi' => ⟨_, hi'.kept kp, h4⟩) a w hi
  | .loop c, Q, _, t, h => by simp only [awp] at h; exact h.aw
  | .rangeFunc .., _, _, _, h => by simp only [awp] at h
  | .scope _, _, _, _, h => by simp only [awp] at h
  | .refuse _, _, _, _, h => by simp only [awp] at h

/-! ### ghost steps, loops -/
/-- Whatever meets t meets t', too. -/
def GS (A : Actv) (t t' : S) : Prop := ∀ a w, Inv A t a w → Inv A t' a w

theorem GS.refl (t : S) : GS A t t := fun _ _ h => h
theorem GS.trans {t u v : S} (h : GS A t u) (g : GS A u v) : GS A t v := fun a w x => g a w (h a w x)

theorem AW.ghost {c : Code} {Q : Exit → S → Prop} {t t' : S} (h : AW P A c Q t') (g : GS A t t') : AW P A c Q t := fun a w hi => h a w (g a w hi)

theorem least {p : Nat → Prop} (h : ∃ n, p n) : ∃ n, p n ∧ ∀ m, p m → n ≤ m := by
  obtain ⟨n, hn⟩ := h
  induction n using Nat.strongRecOn with
  | _ n ih =>
    by_cases hm : ∃ m, m < n ∧ p m
    · obtain ⟨m, h1, h2⟩ := hm
      exact ih m h1 h2
    · exact ⟨n, hn, fun m hm' => Nat.le_of_not_lt fun h => hm ⟨m, h, hm'⟩⟩

/-- A loop: each round leads to a state of the family that is measured less, or out. -/
theorem AW.loop {ι : Type} {c : Code} {Q : Exit → S → Prop} {t : S} (st : ι → S) (μ : ι → Nat) (i0 : ι) (h0 : GS A t (st i0))
    (round : ∀ i, AW P A c (thn (fun t' => ∃ j, GS A t' (st j) ∧ μ j < μ i) Q) (st i)) : AW P A (.loop c) Q t := fun a w hi => by
  let p : Act → World → Nat → Prop := fun a w n => ∃ i, Inv A (st i) a w ∧ n = μ i
  let m : Act → World → Nat := fun a w => Classical.epsilon fun n => p a w n ∧ ∀ k, p a w k → n ≤ k
  have hm : ∀ a w, (∃ i, Inv A (st i) a w) → p a w (m a w) ∧ ∀ k, p a w k → m a w ≤ k := fun a w ⟨i, h⟩ =>
    Classical.epsilon_spec (p := fun n => p a w n ∧ ∀ k, p a w k → n ≤ k) (least ⟨μ i, i, h, rfl⟩)
  refine wp_loop (fun a w => ∃ i, Inv A (st i) a w) m ⟨i0, h0 a w hi⟩ fun a w hI => ?_
  obtain ⟨⟨i, h1, h2⟩, _⟩ := hm a w hI
  refine Code.wp_mono (fun e a' w' ⟨t', h3, h4⟩ => ?_) (round i a w h1)
  cases e <;> first
    | exact ⟨t', h3, h4⟩
    | (obtain ⟨j, hj, hlt⟩ := h4
       have hj' := hj a' w' h3
       refine ⟨⟨j, hj'⟩, ?_⟩
       have := (hm a' w' ⟨j, hj'⟩).2 (μ j) ⟨j, hj', rfl⟩
       omega)

end
end Go.Tr
