/-
  What functions of the program compute, stated as contracts over plain data; the conditions of each stand in its own statement.
-/
import Derived.Test.YtffjbciladpdlaaGreatZN14
set_option linter.unusedSimpArgs false
set_option linter.unusedVariables false
namespace Go.Tr
open Go
def Contract2 (P : Program) (f : FuncId) (args : List TV) (xs : List It) (ri : List (Nat × It)) (r : TV) (xs' : List It) (ro : List (Nat × It)) : Prop :=
 ∀ (E : En) (us : List Value), HInv E (rlook xs ri) → RelVs E args us → Calls P f us.toArray E.w fun e w' => ∃ u E', e = .returned u ∧ E'.w = w' ∧ Post E xs' ro r u E'
def rsOf : List (Nat × Nat) → Nat → Option Nat
 | [], _ => none
 | (j, k) :: l, id => if id = k then some j else rsOf l id
def rsTo : List (Nat × Nat) → Nat → Option Nat
 | [], _ => none
 | (j, k) :: l, id => if id = j then some k else rsTo l id
theorem rsTo_mem {j k : Nat} : ∀ {rs : List (Nat × Nat)}, rsTo rs j = some k → (j, k) ∈ rs
 | [], h => by simp [rsTo] at h
 | (a, b) :: l, h => by
   simp only [rsTo] at h
   split at h
   ·simp only [Option.some.injEq] at h; subst h; rename_i e; subst e; simp
   ·exact List.mem_cons_of_mem _ (rsTo_mem h)
theorem rsTo_of {j k : Nat} : ∀ {rs : List (Nat × Nat)}, (rs.map (·.1)).Nodup → (j, k) ∈ rs → rsTo rs j = some k
 | [], _, h => by simp at h
 | (a, b) :: l, hn, h => by
   simp only [List.map_cons, List.nodup_cons] at hn
   simp only [rsTo]
   rcases List.mem_cons.1 h with h | h
   ·simp only [Prod.mk.injEq] at h; obtain ⟨rfl, rfl⟩ := h; simp
   ·have : j ≠ a := fun e => hn.1 (List.mem_map.2 ⟨(j, k), h, e⟩)
    rw [if_neg this]; exact rsTo_of hn.2 h
theorem rsOf_mem {j k : Nat} : ∀ {rs : List (Nat × Nat)}, rsOf rs k = some j → (j, k) ∈ rs
 | [], h => by simp [rsOf] at h
 | (a, b) :: l, h => by
   simp only [rsOf] at h
   split at h
   ·simp only [Option.some.injEq] at h; subst h; rename_i e; subst e; simp
   ·exact List.mem_cons_of_mem _ (rsOf_mem h)
theorem snd_inj {j j' k : Nat} : ∀ {rs : List (Nat × Nat)}, (rs.map (·.2)).Nodup → (j, k) ∈ rs → (j', k) ∈ rs → j = j'
 | [], _, h, _ => by simp at h
 | (a, b) :: l, hn, h, g => by
   simp only [List.map_cons, List.nodup_cons] at hn
   rcases List.mem_cons.1 h with h | h <;> rcases List.mem_cons.1 g with g | g
   ·simp only [Prod.mk.injEq] at h g; rw [h.1, g.1]
   ·simp only [Prod.mk.injEq] at h; exact absurd (List.mem_map.2 ⟨(j', k), g, h.2⟩) hn.1
   ·simp only [Prod.mk.injEq] at g; exact absurd (List.mem_map.2 ⟨(j, k), h, g.2⟩) hn.1
   ·exact snd_inj hn.2 h g
mutual
def TV.pass2 (ν : List Pl) (rs : List (Nat × Nat)) : TV → Option TV
 | .junk => some .junk
 | .d x => some (.d x)
 | .c v => some (.c v)
 | .agg vs => match TV.pass2s ν rs vs with | some vs => some (.agg vs) | none => none
 | .tup _ => none
 | .oref id n => match rsOf rs id with | some j => some (.oref j n) | none => none
 | .ptr p q => match idxP p ν 0 with | some i => some (.ptr (.x i) q) | none => none
 | .ep e q => some (.ep e q)
 | .eptr _ _ _ _ => none
 | .mref _ => none
 | .sx _ => none
 | .osl _ _ _ => none
 | .clo f vs => match TV.pass2s ν rs vs with | some vs => some (.clo f vs) | none => none
def TV.pass2s (ν : List Pl) (rs : List (Nat × Nat)) : List TV → Option (List TV)
 | [] => some []
 | v :: vs => match TV.pass2 ν rs v, TV.pass2s ν rs vs with
   | some v, some vs => some (v :: vs)
   | _, _ => none
end
section
variable {P : Program} {A : Actv}
def En.callee2 (E : En) (ν : List Pl) (rs : List (Nat × Nat)) : En :=
 { w := E.w, St := E.St, blk := fun p => match p with | .x i => (ν[i]?).bind E.blk | _ => none, val := fun j => (rsTo rs j).bind E.val }
theorem callee2_r (E : En) (ν : List Pl) (rs : List (Nat × Nat)) : ExtR E (E.callee2 ν rs) := ⟨fun _ _ h => h, fun _ _ _ => rfl⟩
mutual
theorem pass2_rel {ν : List Pl} {rs : List (Nat × Nat)} {E : En} (hn : (rs.map (·.1)).Nodup) : ∀ {v v' : TV} {u : Value}, v.pass2 ν rs = some v' → RelV E v u → RelV (E.callee2 ν rs) v' u
 | .junk, v', u, h, _ => by simp only [TV.pass2, Option.some.injEq] at h; subst h; simp only [RelV]
 | .d x, v', u, h, hr => by
   simp only [TV.pass2, Option.some.injEq] at h; subst h
   simp only [RelV] at hr ⊢
   exact Rep.ext (callee2_r E ν rs) x u hr
 | .c v, v', u, h, hr => by
   simp only [TV.pass2, Option.some.injEq] at h
   simp only [RelV] at hr
   subst hr
   subst h; simp only [RelV]
 | .agg vs, v', u, h, hr => by
   simp only [TV.pass2] at h
   split at h
   ·rename_i vs' hv
    simp only [Option.some.injEq] at h; subst h
    simp only [RelV] at hr ⊢
    obtain ⟨us, hu, hs⟩ := hr
    exact ⟨us, hu, pass2s_rel hn hv hs⟩
   ·simp at h
 | .tup vs, v', u, h, _ => by simp [TV.pass2] at h
 | .oref id n, v', u, h, hr => by
   simp only [TV.pass2] at h
   split at h
   ·rename_i j hj
    simp only [Option.some.injEq] at h; subst h
    simp only [RelV] at hr ⊢
    obtain ⟨h1, k, c, v, h2, h3⟩ := hr
    exact ⟨h1, k, c, v, by simp only [En.callee2, rsTo_of hn (rsOf_mem hj), Option.bind_some]; exact h2, h3⟩
   ·simp at h
 | .ptr p q, v', u, h, hr => by
   simp only [TV.pass2] at h
   split at h
   ·rename_i i hi
    simp only [Option.some.injEq] at h; subst h
    simp only [RelV] at hr ⊢
    obtain ⟨b, hb, hu⟩ := hr
    obtain ⟨_, h2⟩ := idxP_spec hi
    exact ⟨b, by simpa [En.callee2, h2] using (by simpa using h2 : ν[i]? = some p) ▸ hb, hu⟩
   ·simp at h
 | .ep e q, v', u, h, hr => by
   simp only [TV.pass2, Option.some.injEq] at h; subst h
   simp only [RelV] at hr ⊢
   obtain ⟨b, o, hu, hc⟩ := hr
   exact ⟨b, o, hu, RepCells.ext (callee2_r E ν rs) b o e hc⟩
 | .eptr _ _ _ _, v', u, h, _ => by simp [TV.pass2] at h
 | .mref _, v', u, h, _ => by simp [TV.pass2] at h
 | .sx _, v', u, h, _ => by simp [TV.pass2] at h
 | .osl _ _ _, v', u, h, _ => by simp [TV.pass2] at h
 | .clo f vs, v', u, h, hr => by
   simp only [TV.pass2] at h
   split at h
   ·rename_i vs' hv
    simp only [Option.some.injEq] at h; subst h
    simp only [RelV] at hr ⊢
    obtain ⟨us, hu, hs⟩ := hr
    exact ⟨us, hu, pass2s_rel hn hv hs⟩
   ·simp at h
theorem pass2s_rel {ν : List Pl} {rs : List (Nat × Nat)} {E : En} (hn : (rs.map (·.1)).Nodup) : ∀ {vs vs' : List TV} {us : List Value}, TV.pass2s ν rs vs = some vs' → RelVs E vs us → RelVs (E.callee2 ν rs) vs' us
 | [], vs', us, h, hr => by
   simp only [TV.pass2s, Option.some.injEq] at h; subst h
   simpa only [RelVs] using hr
 | v :: vs, vs', us, h, hr => by
   simp only [TV.pass2s] at h
   split at h
   ·rename_i v1 vs1 h1 h2
    simp only [Option.some.injEq] at h; subst h
    simp only [RelVs] at hr ⊢
    obtain ⟨u, us', hu, g1, g2⟩ := hr
    exact ⟨u, us', hu, pass2_rel hn h1 g1, pass2s_rel hn h2 g2⟩
   ·simp at h
end
def passI2 (ν : List Pl) (rs : List (Nat × Nat)) : It → Option It
 | .box cs => match TV.pass2s ν rs cs with | some cs => some (.box cs) | none => none
 | _ => none
def passI2s (t : S) (ν : List Pl) (rs : List (Nat × Nat)) : List Pl → Option (List It)
 | [] => some []
 | p :: l => match passI2 ν rs (t p), passI2s t ν rs l with
   | some i, some is => some (i :: is)
   | _, _ => none
theorem passI2s_spec {t : S} {ν : List Pl} {rs : List (Nat × Nat)} : ∀ {l : List Pl} {xs : List It}, passI2s t ν rs l = some xs → xs.length = l.length ∧ ∀ (i : Nat) (p : Pl), l[i]? = some p → ∃ cs cs', t p = .box cs ∧ TV.pass2s ν rs cs = some cs' ∧ xs[i]? = some (.box cs')
 | [], xs, h => by simp only [passI2s, Option.some.injEq] at h; subst h; simp
 | p :: l, xs, h => by
   simp only [passI2s] at h
   split at h
   ·rename_i it is h1 h2
    simp only [Option.some.injEq] at h; subst h
    obtain ⟨h3, h4⟩ := passI2s_spec h2
    refine ⟨by simp [h3], fun i q hq => ?_⟩
    cases i with
    | zero =>
      simp at hq; subst hq
      unfold passI2 at h1
      split at h1
      ·rename_i cs hcs
       split at h1
       ·rename_i cs' hcs'
        simp only [Option.some.injEq] at h1; subst h1
        exact ⟨cs, cs', hcs, hcs', by simp⟩
       ·simp at h1
      ·simp at h1
    | succ i => simpa using h4 i q (by simpa using hq)
   ·simp at h
theorem passI2s_eq {t t' : S} {ν : List Pl} {rs : List (Nat × Nat)} : ∀ {l : List Pl}, (∀ p ∈ l, t' p = t p) → passI2s t' ν rs l = passI2s t ν rs l
 | [], _ => rfl
 | p :: l, h => by simp only [passI2s]; rw [h p (by simp), passI2s_eq fun q hq => h q (by simp [hq])]
theorem pass2s_one {ν : List Pl} {rs : List (Nat × Nat)} : ∀ {vs vs' : List TV}, TV.pass2s ν rs vs = some vs' → vs'.length = vs.length
 | [], vs', h => by simp only [TV.pass2s, Option.some.injEq] at h; subst h; rfl
 | v :: vs, vs', h => by
   simp only [TV.pass2s] at h
   split at h
   ·rename_i h1 h2
    simp only [Option.some.injEq] at h; subst h
    simp [pass2s_one h2]
   ·simp at h
theorem pass2Cells {ν : List Pl} {rs : List (Nat × Nat)} {E : En} (hn : (rs.map (·.1)).Nodup) {us : List Value} : ∀ {o : Nat} {vs vs' : List TV}, TV.pass2s ν rs vs = some vs' → CellsRel E us o vs → CellsRel (E.callee2 ν rs) us o vs'
 | o, [], vs', h, _ => by simp only [TV.pass2s, Option.some.injEq] at h; subst h; trivial
 | o, v :: vs, vs', h, ⟨⟨u, h1, h2, h3⟩, hr⟩ => by
   simp only [TV.pass2s] at h
   split at h
   ·rename_i v1 vs1 g1 g2
    simp only [Option.some.injEq] at h; subst h
    exact ⟨⟨u, h1, h2, pass2_rel hn g1 h3⟩, pass2Cells hn g2 hr⟩
   ·simp at h
def passEs (ν : List Pl) (rs : List (Nat × Nat)) : List (List TV) → Option (List (List TV))
 | [] => some []
 | e :: es => match TV.pass2s ν rs e, passEs ν rs es with
   | some e, some es => some (e :: es)
   | _, _ => none
def passR (ν : List Pl) (rs : List (Nat × Nat)) : It → Option It
 | .row e z es false => match passEs ν rs es with | some es => some (.row e z es false) | none => none
 | _ => none
theorem passR_spec {ν : List Pl} {rs : List (Nat × Nat)} {i i' : It} (h : passR ν rs i = some i') : ∃ e z es es', i = .row e z es false ∧ passEs ν rs es = some es' ∧ i' = .row e z es' false := by
 unfold passR at h
 split at h
 ·rename_i e z es
  split at h
  ·rename_i es' hes
   simp only [Option.some.injEq] at h
   exact ⟨e, z, es, es', rfl, hes, h.symm⟩
  ·simp at h
 ·simp at h
theorem passEs_len {ν : List Pl} {rs : List (Nat × Nat)} : ∀ {es es' : List (List TV)}, passEs ν rs es = some es' → es'.length = es.length
 | [], _, h => by simp only [passEs, Option.some.injEq] at h; subst h; rfl
 | e :: es, _, h => by
   simp only [passEs] at h
   split at h
   ·rename_i h1 h2
    simp only [Option.some.injEq] at h; subst h
    simp [passEs_len h2]
   ·simp at h
theorem passEs_rows {ν : List Pl} {rs : List (Nat × Nat)} {E : En} (hn : (rs.map (·.1)).Nodup) {us : List Value} {k : Nat} : ∀ {o : Nat} {es es' : List (List TV)}, passEs ν rs es = some es' → RowRel E us k o es → RowRel (E.callee2 ν rs) us k o es'
 | _, [], _, h, _ => by simp only [passEs, Option.some.injEq] at h; subst h; trivial
 | _, e :: es, _, h, ⟨h1, h2, hr⟩ => by
   simp only [passEs] at h
   split at h
   ·rename_i g1 g2
    simp only [Option.some.injEq] at h; subst h
    exact ⟨by rw [pass2s_one g1]; exact h1, pass2Cells hn g1 h2, passEs_rows hn g2 hr⟩
   ·simp at h
def rsIn (t : S) (ν : List Pl) (rs : List (Nat × Nat)) : List (Nat × Nat) → Option (List (Nat × It))
 | [] => some []
 | (j, k) :: l => match passR ν rs (t (.o k)), rsIn t ν rs l with
   | some i, some r => some ((j, i) :: r)
   | _, _ => none
theorem rsIn_look {t : S} {ν : List Pl} {rs : List (Nat × Nat)} {j : Nat} : ∀ {l : List (Nat × Nat)} {ri : List (Nat × It)}, rsIn t ν rs l = some ri → (rsTo l j = none → lookI ri j = .none) ∧ ∀ k, rsTo l j = some k → passR ν rs (t (.o k)) = some (lookI ri j)
 | [], ri, h => by
   simp only [rsIn, Option.some.injEq] at h; subst h
   exact ⟨fun _ => rfl, fun k h => by simp [rsTo] at h⟩
 | (a, b) :: l, ri, h => by
   simp only [rsIn] at h
   split at h
   ·rename_i i r h1 h2
    simp only [Option.some.injEq] at h; subst h
    obtain ⟨g1, g2⟩ := rsIn_look (j := j) h2
    simp only [rsTo, lookI]
    by_cases e : j = a
    ·simp only [if_pos e]
     exact ⟨fun h => by simp at h, fun k h => by simp only [Option.some.injEq] at h; subst h; exact h1⟩
    ·simp only [if_neg e]
     exact ⟨g1, g2⟩
   ·simp at h
theorem rsIn_mem {t : S} {ν : List Pl} {rs : List (Nat × Nat)} : ∀ {l : List (Nat × Nat)} {ri : List (Nat × It)}, rsIn t ν rs l = some ri → ∀ x ∈ l, ∃ e z es, t (.o x.2) = .row e z es false
 | [], _, _, x, hx => by simp at hx
 | (a, b) :: l, ri, h, x, hx => by
   simp only [rsIn] at h
   split at h
   ·rename_i i r h1 h2
    rcases List.mem_cons.1 hx with rfl | hx
    ·obtain ⟨e, z, es, _, h3, _⟩ := passR_spec h1
     exact ⟨e, z, es, h3⟩
    ·exact rsIn_mem h2 x hx
   ·simp at h
theorem rsIn_eq {t t' : S} {ν : List Pl} {rs : List (Nat × Nat)} : ∀ {l : List (Nat × Nat)}, (∀ x ∈ l, t' (.o x.2) = t (.o x.2)) → rsIn t' ν rs l = rsIn t ν rs l
 | [], _ => rfl
 | (a, b) :: l, h => by simp only [rsIn]; rw [h (a, b) (by simp), rsIn_eq fun x hx => h x (by simp [hx])]
theorem callee2_own {E : En} {ν : List Pl} {rs : List (Nat × Nat)} {p : Pl} {b : Nat} (h : (E.callee2 ν rs).own p = some b) :
  (∃ i q, p = .x i ∧ ν[i]? = some q ∧ E.blk q = some b ∧ E.own q = some b) ∨ (∃ j k x, p = .o j ∧ (j, k) ∈ rs ∧ rsTo rs j = some k ∧ E.val k = some x ∧ x.2.2.ownBlock = some b) := by
 cases p with
 | s k => simp [En.own, En.callee2] at h
 | x i =>
   left
   unfold En.own at h
   split at h
   ·rename_i b2 hb
    simp only [Option.some.injEq] at h; subst h
    have hb : (ν[i]?).bind E.blk = some b2 := hb
    cases hp : ν[i]? with
    | none => simp [hp] at hb
    | some p =>
      simp only [hp, Option.bind_some] at hb
      exact ⟨i, p, rfl, hp, hb, by simp [En.own, hb]⟩
   ·simp at h
 | o j =>
   right
   simp only [En.own, En.callee2] at h
   cases hk : rsTo rs j with
   | none => simp [hk] at h
   | some k =>
     simp only [hk, Option.bind_some] at h
     cases hv : E.val k with
     | none => simp [hv] at h
     | some x =>
       simp only [hv, Option.bind_some] at h
       exact ⟨j, k, x, rfl, rsTo_mem hk, hk, hv, h⟩
theorem HInv.callee2 {t : S} {a : Act} {E : En} (hi : InvE A t a E) {ν : List Pl} {rs : List (Nat × Nat)} {cxs : List It} (hν : ν.Nodup) (hI : passI2s t ν rs ν = some cxs) (hνp : ∀ p ∈ ν, isPl p = true)
  (hr1 : (rs.map (·.1)).Nodup) (hr2 : (rs.map (·.2)).Nodup) {ri : List (Nat × It)} (hrs : rsIn t ν rs rs = some ri) : HInv (E.callee2 ν rs) (rlook cxs ri) := by
 obtain ⟨hl0, hIs⟩ := passI2s_spec hI
 have hrow : ∀ {j k}, (j, k) ∈ rs → ∃ e z es, t (.o k) = .row e z es false := fun h => rsIn_mem hrs _ h
 have hEown : ∀ {k x b}, E.val k = some x → x.2.2.ownBlock = some b → (∃ j, (j, k) ∈ rs) → E.own (.o k) = some b := fun {k x b} h1 h2 ⟨j, h3⟩ => by
  obtain ⟨e, z, es, h4⟩ := hrow h3
  have := hi.h.item (.o k) (by simp)
  rw [h4] at this
  simp [En.own, this.1, h1, h2]
 refine ⟨fun p hps => ?_, fun k => rfl, fun p q b' h1 h2 => ?_, fun p b' h1 => ?_, fun b' o h => hi.h.stsz b' o h, fun b' o h p hp => ?_, fun y hy => RepCells.ext (callee2_r E ν rs) _ _ _ (hi.h.gl y hy)⟩
 ·cases p with
  | s k => exact absurd rfl (hps k)
  | o j =>
    simp only [rlook]
    obtain ⟨hl1, hl2⟩ := rsIn_look (j := j) hrs
    cases hk : rsTo rs j with
    | none => rw [hl1 hk]; exact fun id e => by simp only [Pl.o.injEq] at e; subst e; exact ⟨rfl, by simp [En.callee2, hk]⟩
    | some k =>
      obtain ⟨e, z, es, es', h4, h5, h6⟩ := passR_spec (hl2 k hk)
      have hit := hi.h.item (.o k) (by simp)
      rw [h6]
      simp only [h4] at hit
      obtain ⟨g0, id, v, us, g1, g2, g3, g4⟩ := hit
      simp only [Pl.o.injEq] at g1; subst g1
      refine ⟨rfl, j, v, us, rfl, by simp only [En.callee2, hk, Option.bind_some]; rw [passEs_len h5]; exact g2, ?_, passEs_rows hr1 h5 g4⟩
      rw [passEs_len h5]; exact g3
  | x i =>
    cases hp : ν[i]? with
    | none =>
      have : cxs.length ≤ i := by rw [hl0]; exact List.getElem?_eq_none_iff.1 hp
      simp only [rlook, List.getD, List.getElem?_eq_none this, Option.getD_none]
      exact fun id h => by simp at h
    | some p =>
      obtain ⟨cs, cs', h1, h2, h3⟩ := hIs i p hp
      have hpm := List.mem_of_getElem? hp
      simp only [rlook, List.getD, h3, Option.getD_some]
      have hps' : ∀ k, p ≠ .s k := fun k e => by subst e; have := hνp _ hpm; simp [isPl] at this
      have hit := hi.h.item p hps'
      rw [h1] at hit
      obtain ⟨_, b', ty, us, g1, g2, g3, g4⟩ := hit
      refine ⟨fun id h => by simp at h, b', ty, us, ?_, g2, by rw [g3, pass2s_one h2], pass2Cells hr1 h2 g4⟩
      show (ν[i]?).bind E.blk = some b'
      rw [hp]; exact g1
 ·rcases callee2_own h1 with ⟨i, p', rfl, k1, _, k2⟩ | ⟨j, k, x, rfl, m1, _, v1, o1⟩ <;> rcases callee2_own h2 with ⟨i', q', rfl, k3, _, k4⟩ | ⟨j', k', x', rfl, m2, _, v2, o2⟩
  ·have := hi.h.inj p' q' b' k2 k4
   subst this
   have e1 := (List.getElem?_eq_some_iff.1 k1).2
   have e2 := (List.getElem?_eq_some_iff.1 k3).2
   rw [(List.getElem_inj hν).1 (e1.trans e2.symm)]
  ·have := hi.h.inj p' (.o k') b' k2 (hEown v2 o2 ⟨_, m2⟩)
   subst this
   obtain ⟨cs, _, g1, _⟩ := hIs i _ k1
   obtain ⟨e, z, es, g2⟩ := hrow m2
   rw [g1] at g2; simp at g2
  ·have := hi.h.inj q' (.o k) b' k4 (hEown v1 o1 ⟨_, m1⟩)
   subst this
   obtain ⟨cs, _, g1, _⟩ := hIs i' _ k3
   obtain ⟨e, z, es, g2⟩ := hrow m1
   rw [g1] at g2; simp at g2
  ·have := hi.h.inj (.o k) (.o k') b' (hEown v1 o1 ⟨_, m1⟩) (hEown v2 o2 ⟨_, m2⟩)
   simp only [Pl.o.injEq] at this; subst this
   rw [snd_inj hr2 m1 m2]
 ·rcases callee2_own h1 with ⟨i, p', rfl, k1, _, k2⟩ | ⟨j, k, x, rfl, m1, _, v1, o1⟩
  ·exact hi.h.size p' b' k2
  ·exact hi.h.size _ b' (hEown v1 o1 ⟨_, m1⟩)
 ·rcases callee2_own hp with ⟨i, p', rfl, k1, _, k2⟩ | ⟨j, k, x, rfl, m1, _, v1, o1⟩
  ·obtain ⟨e, k, es, k3, _⟩ := hi.h.sep b' o h p' k2
   obtain ⟨cs, _, h1, _⟩ := hIs i p' k1
   rw [h1] at k3; simp at k3
  ·obtain ⟨e, z, es, k3, _⟩ := hi.h.sep b' o h _ (hEown v1 o1 ⟨_, m1⟩)
   obtain ⟨e2, z2, es2, g2⟩ := hrow m1
   rw [g2] at k3; simp at k3
theorem Fr.next2 {E0 E E' : En} (f : Fr E0 E) (os : E'.w.os = E.w.os) (tape : E'.w.tape = E.w.tape) (output : E'.w.output = E.w.output) (size : E.w.heap.size ≤ E'.w.heap.size)
  (old : ∀ b, b < E0.w.heap.size → (∀ i, E0.blk (.x i) ≠ some b) → (∀ j, E0.own (.o j) ≠ some b) → E'.w.heap[b]? = E.w.heap[b]?) (xb : ∀ i, E'.blk (.x i) = E.blk (.x i))
  (new : ∀ id b, E'.own (.o id) = some b → (∃ j, E.own (.o j) = some b) ∨ E.w.heap.size ≤ b) (st : ∀ b o, E.St b o → E'.St b o)
  (newst : ∀ b o, E'.St b o → E.St b o ∨ (E0.w.heap.size ≤ b ∨ ∃ j, E0.own (.o j) = some b)) : Fr E0 E' :=
 ⟨os.trans f.os, tape.trans f.tape, output.trans f.output, Nat.le_trans f.size size, fun b h1 h2 h3 => (old b h1 h2 h3).trans (f.old b h1 h2 h3), fun i => (xb i).trans (f.xb i),
  fun id b h => (new id b h).elim (fun ⟨j, h⟩ => f.new j b h) (fun h => .inl (Nat.le_trans f.size h)), fun b o h => st b o (f.st b o h), fun b o h => (newst b o h).elim (f.newst b o) .inr⟩
def wr : List (Nat × Nat) → List (Pl × It)
 | [] => []
 | (_, k) :: l => (.o k, .v .junk) :: wr l
theorem wr_get {t : S} {k : Nat} : ∀ {rs : List (Nat × Nat)}, k ∈ rs.map (·.2) → over t (wr rs) (.o k) = .v .junk
 | [], h => by simp at h
 | (a, b) :: l, h => by
   simp only [wr, over]
   by_cases e : k = b
   ·subst e; simp [upd]
   ·simp only [List.map_cons, List.mem_cons, e, false_or] at h
    rw [upd, if_neg (by simpa using e)]
    exact wr_get h
theorem wr_other {t : S} {p : Pl} : ∀ {rs : List (Nat × Nat)}, (∀ k ∈ rs.map (·.2), p ≠ .o k) → over t (wr rs) p = t p
 | [], _ => rfl
 | (a, b) :: l, h => by
   simp only [wr, over, upd, if_neg (h b (by simp))]
   exact wr_other fun k hk => h k (by simp only [List.map_cons, List.mem_cons]; exact .inr hk)
theorem InvE.called2 {t : S} {a : Act} {E : En} (hi : InvE A t a E) {ν : List Pl} {rs : List (Nat × Nat)} {cxs cxs' : List It} {ro : List (Nat × It)} {b : Nat} (hν : ν.Nodup) (hνp : ∀ p ∈ ν, isPl p = true) (hI : passI2s t ν rs ν = some cxs)
  (hr1 : (rs.map (·.1)).Nodup) (hr2 : (rs.map (·.2)).Nodup) {ri : List (Nat × It)} (hrs : rsIn t ν rs rs = some ri)
  (hl : cxs'.length = ν.length) (hbox : ∀ i ∈ cxs', isBox i = true) (hobj : ∀ x ∈ ro, isObj x.2 = true) (hfree : ∀ x ∈ ro, t (.o (b + x.1)) = .none)
  {r : TV} {u : Value} {E' : En} (hp : Post (E.callee2 ν rs) cxs' ro r u E') :
  ∃ E2 : En, E2.w = E'.w ∧ InvE A (over t (wx ν b ν cxs' ++ (wo ν b ro ++ wr rs))) a E2 ∧ RelV E2 (r.back ν b) u := by
 obtain ⟨hl0, hIs⟩ := passI2s_spec hI
 have hrow : ∀ {k}, k ∈ rs.map (·.2) → ∃ e z es, t (.o k) = .row e z es false := fun h => by
  obtain ⟨x, hx, rfl⟩ := List.mem_map.1 h
  exact rsIn_mem hrs _ hx
 have hrowE : ∀ {k}, k ∈ rs.map (·.2) → E.blk (.o k) = none ∧ ∃ z c v, E.val k = some (z, c, v) ∧ E.own (.o k) = v.ownBlock := fun {k} h => by
  obtain ⟨e, z, es, h4⟩ := hrow h
  have hit := hi.h.item (.o k) (by simp)
  rw [h4] at hit
  obtain ⟨g0, id, v, us, g1, g2, _, _⟩ := hit
  simp only [Pl.o.injEq] at g1; subst g1
  exact ⟨g0, _, _, v, g2, by simp [En.own, g0, g2]⟩
 have hνb : ∀ {i : Nat} {p : Pl}, ν[i]? = some p → ∃ cs, t p = .box cs := fun h => by
  obtain ⟨cs, _, h1, _⟩ := hIs _ _ h; exact ⟨cs, h1⟩
 have hνs : ∀ {p : Pl}, p ∈ ν → ∀ k, p ≠ .s k := fun hp k e => by subst e; have := hνp _ hp; simp [isPl] at this
 have hνr : ∀ {k}, k ∈ rs.map (·.2) → Pl.o k ∉ ν := fun h hp => by
  obtain ⟨i, hi'⟩ := List.getElem?_of_mem hp
  obtain ⟨cs, g⟩ := hνb hi'
  obtain ⟨e, z, es, h4⟩ := hrow h
  rw [g] at h4; simp at h4
 let nw : Nat → Option Nat := fun k => if b ≤ k ∧ (k - b) ∈ ro.map (·.1) then some (k - b) else none
 have hnw : ∀ {k j}, nw k = some j ↔ k = b + j ∧ j ∈ ro.map (·.1) := fun {k j} => by
  simp only [nw]
  constructor
  ·intro h
   split at h
   ·rename_i h1; simp only [Option.some.injEq] at h; subst h; exact ⟨by omega, h1.2⟩
   ·simp at h
  ·rintro ⟨rfl, h⟩
   rw [if_pos ⟨by omega, by rw [show b + j - b = j by omega]; exact h⟩]
   simp
 have hnewfree : ∀ {k j}, nw k = some j → t (.o k) = .none := fun h => by
  obtain ⟨rfl, h1⟩ := hnw.1 h
  obtain ⟨x, hx, rfl⟩ := List.mem_map.1 h1
  exact hfree x hx
 have hnewE : ∀ {k j}, nw k = some j → E.blk (.o k) = none ∧ E.val k = none := fun {k j} h => by
  have := hi.h.item (.o k) (by simp)
  rw [hnewfree h] at this
  exact this k rfl
 have hnr : ∀ {k j}, nw k = some j → k ∉ rs.map (·.2) := fun h g => by
  obtain ⟨e, z, es, h4⟩ := hrow g
  rw [hnewfree h] at h4; simp at h4
 let E2 : En := { w := E'.w, St := E'.St, blk := fun p => match p with | .o k => (match nw k with | some j => E'.blk (.o j) | none => E.blk (.o k)) | p => E.blk p,
                  val := fun k => match nw k with | some j => E'.val j | none => if k ∈ rs.map (·.2) then (E.val k).map (fun x => (x.1, x.2.1 + 1, .slice none 0 0)) else E.val k }
 have hblk_old : ∀ {p : Pl}, (∀ k j, p = .o k → nw k ≠ some j) → E2.blk p = E.blk p := fun {p} h => by
  cases p with
  | o k =>
    simp only [E2]
    cases hn : nw k with
    | none => rfl
    | some j => exact absurd hn (h k j rfl)
  | s k => rfl
  | x k => rfl
 have hval_old : ∀ {k : Nat}, (∀ j, nw k ≠ some j) → k ∉ rs.map (·.2) → E2.val k = E.val k := fun {k} h g => by
  simp only [E2]
  cases hn : nw k with
  | none => rw [if_neg g]
  | some j => exact absurd hn (h j)
 have hval_gone : ∀ {k : Nat}, k ∈ rs.map (·.2) → E2.val k = (E.val k).map (fun x => (x.1, x.2.1 + 1, .slice none 0 0)) := fun {k} g => by
  simp only [E2]
  cases hn : nw k with
  | none => rw [if_pos g]
  | some j => exact absurd g (hnr hn)
 have hblk_new : ∀ {k j : Nat}, nw k = some j → E2.blk (.o k) = E'.blk (.o j) ∧ E2.val k = E'.val j := fun {k j} h => by simp only [E2, h, and_self]
 have hown_old : ∀ {p : Pl}, (∀ k j, p = .o k → nw k ≠ some j) → (∀ k, p = .o k → k ∉ rs.map (·.2)) → E2.own p = E.own p := fun {p} h g =>
  En.own_eq (hblk_old h) (fun id e => hval_old (fun j => h id j e) (g id e))
 have hown_new : ∀ {k j : Nat}, nw k = some j → E2.own (.o k) = E'.own (.o j) := fun {k j} h => by
  obtain ⟨h1, h2⟩ := hblk_new h
  simp only [En.own, h1, h2]
 have hown_gone : ∀ {k}, k ∈ rs.map (·.2) → E2.own (.o k) = none := fun {k} h => by
  obtain ⟨g1, z, c, v, g2, _⟩ := hrowE h
  have hb : E2.blk (.o k) = none := by
   rw [hblk_old (p := .o k)]
   ·exact g1
   ·intro k' j e hn; simp only [Pl.o.injEq] at e; subst e; exact hnr hn h
  simp only [En.own, hb, hval_gone h, g2, Option.map_some, Option.bind_some, Value.ownBlock]
 have hcx : ∀ i, (E.callee2 ν rs).blk (.x i) = (ν[i]?).bind E.blk := fun i => rfl
 have hown2 : ∀ {j b'}, (E.callee2 ν rs).own (.o j) = some b' → ∃ k, k ∈ rs.map (·.2) ∧ E.own (.o k) = some b' := fun {j b'} h => by
  rcases callee2_own h with ⟨i, q, e, _⟩ | ⟨j', k, x, e, m, _, v, o⟩
  ·simp at e
  ·have hk : k ∈ rs.map (·.2) := List.mem_map.2 ⟨_, m, rfl⟩
   obtain ⟨_, z, c, v', g2, g3⟩ := hrowE hk
   rw [v] at g2; simp only [Option.some.injEq] at g2; subst g2
   exact ⟨k, hk, g3.trans o⟩
 have hxblk : ∀ {i b'}, (E.callee2 ν rs).blk (.x i) = some b' → ∃ p, ν[i]? = some p ∧ E.blk p = some b' ∧ E.own p = some b' := fun {i b'} h => by
  rw [hcx] at h
  cases hp : ν[i]? with
  | none => simp [hp] at h
  | some p =>
    simp only [hp, Option.bind_some] at h
    exact ⟨p, rfl, h, by simp [En.own, h]⟩
 have hstold : ∀ {b' o}, E.St b' o → E'.w.heap[b']? = E.w.heap[b']? := fun {b' o} h => hp.fr.old b' (hi.h.stsz _ _ h) (fun i hx => by
  obtain ⟨p, h1, h2, h3⟩ := hxblk hx
  obtain ⟨cs, h4⟩ := hνb h1
  obtain ⟨e, k, es, h5, _⟩ := hi.h.sep _ _ h p h3
  rw [h4] at h5; simp at h5) (fun j hj => by
  obtain ⟨k, h1, h2⟩ := hown2 hj
  obtain ⟨e, z, es, h5, _⟩ := hi.h.sep _ _ h _ h2
  obtain ⟨e', z', es', h6⟩ := hrow h1
  rw [h6] at h5; simp at h5)
 have x : ExtA E E2 := by
  refine ⟨fun b' o h => hp.fr.st b' o h, fun b' o h => atW_of_block (hstold h), fun id b' _ h => ?_, fun i b' h => h, fun i b' h => h, fun id k c v _ h => ?_⟩
  ·rw [hblk_old]
   ·exact h
   ·rintro k j e hn
    simp only [Pl.o.injEq] at e; subst e
    rw [(hnewE hn).1] at h; simp at h
  ·by_cases hr : id ∈ rs.map (·.2)
   ·exact ⟨c + 1, .slice none 0 0, by rw [hval_gone hr, h]; rfl, by omega, fun e => by omega⟩
   ·refine ⟨c, v, ?_, Nat.le_refl _, fun _ => rfl⟩
    rw [hval_old _ hr]
    ·exact h
    ·intro j hn
     rw [(hnewE hn).2] at h; simp at h
 have hmem : ∀ {j : Nat}, (E'.blk (.o j) ≠ none ∨ E'.val j ≠ none) → j ∈ ro.map (·.1) := fun {j} h => by
  by_cases hj : j ∈ ro.map (·.1)
  ·exact hj
  ·have := hp.h.item (.o j) (by simp)
   simp only [rlook, lookI_mem hj] at this
   obtain ⟨h1, h2⟩ := this j rfl
   rcases h with h | h
   ·exact absurd h1 h
   ·exact absurd h2 h
 have hback : ∀ {v : TV} {u : Value}, RelV E' v u → RelV E2 (v.back ν b) u := fun {v u} h => by
  refine back_rel (E' := E') (E2 := E2) ⟨fun _ _ h => h, fun _ _ _ => rfl⟩ (fun i b' hb => ?_) (fun id b' hb => ?_) (fun id y hy => ?_) hp.h.frees h
  ·rw [hp.fr.xb] at hb
   obtain ⟨p, h1, h2, h3⟩ := hxblk hb
   have hg : ν.getD i (.s 0) = p := by simp [List.getD, h1]
   rw [hg, hblk_old]
   ·exact h2
   ·rintro k j rfl hn
    rw [(hnewE hn).1] at h2; simp at h2
  ·have hj := hmem (j := id) (.inl (by rw [hb]; simp))
   rw [(hblk_new (hnw.2 ⟨rfl, hj⟩)).1]; exact hb
  ·have hj := hmem (j := id) (.inr (by rw [hy]; simp))
   rw [(hblk_new (hnw.2 ⟨rfl, hj⟩)).2]; exact hy
 have hnwn : ∀ {p : Pl}, (∀ k j, p = .o k → nw k ≠ some j) → ∀ j ∈ ro.map (·.1), p ≠ .o (b + j) := fun h j hj e => h _ j e (hnw.2 ⟨rfl, hj⟩)
 have hνnew : ∀ {p : Pl}, p ∈ ν → ∀ k j, p = .o k → nw k ≠ some j := fun {p} hpν k j e hn => by
  subst e
  obtain ⟨i, hi'⟩ := List.getElem?_of_mem hpν
  obtain ⟨cs, h⟩ := hνb hi'
  rw [hnewfree hn] at h; simp at h
 have hval2 : ∀ p, over t (wx ν b ν cxs' ++ (wo ν b ro ++ wr rs)) p = if p ∈ ν then over t (wx ν b ν cxs') p else over (over t (wr rs)) (wo ν b ro) p := fun p => by
  rw [over_app, over_app]
  split
  ·rename_i h
   obtain ⟨i, h1⟩ := List.getElem?_of_mem h
   have hil : i < cxs'.length := by rw [hl]; exact (List.getElem?_eq_some_iff.1 h1).1
   rw [wx_get hν hl h1 (List.getElem?_eq_getElem hil), wx_get hν hl h1 (List.getElem?_eq_getElem hil)]
  ·rename_i h
   rw [wx_other h]
 have hold : ∀ {p : Pl}, p ∉ ν → (∀ k j, p = .o k → nw k ≠ some j) → (∀ k, p = .o k → k ∉ rs.map (·.2)) → over t (wx ν b ν cxs' ++ (wo ν b ro ++ wr rs)) p = t p := fun h1 h2 h3 => by
  rw [hval2, if_neg h1, wo_other (hnwn h2), wr_other (fun k hk e => h3 k e hk)]
 have hgone : ∀ {k}, k ∈ rs.map (·.2) → over t (wx ν b ν cxs' ++ (wo ν b ro ++ wr rs)) (.o k) = .v .junk := fun {k} h => by
  rw [hval2, if_neg (hνr h), wo_other (hnwn (p := .o k) (fun k' j e hn => by simp only [Pl.o.injEq] at e; subst e; exact hnr hn h)), wr_get h]
 have hH : HInv E2 (over t (wx ν b ν cxs' ++ (wo ν b ro ++ wr rs))) := by
  refine ⟨fun p hps => ?_, fun k => hi.h.frees k, fun p q b' h1 h2 => ?_, fun p b' h1 => ?_, fun b' o h1 => hp.h.stsz b' o h1, fun b' o h1 p h2 => ?_, fun y hy => RepCells.ext x.r _ _ _ (hi.h.gl y hy)⟩
  ·by_cases hpν : p ∈ ν
   ·obtain ⟨i, h1⟩ := List.getElem?_of_mem hpν
    have hil : i < cxs'.length := by rw [hl]; exact (List.getElem?_eq_some_iff.1 h1).1
    rw [hval2, if_pos hpν, wx_get hν hl h1 (List.getElem?_eq_getElem hil)]
    have hb := hbox cxs'[i] (List.getElem_mem hil)
    have hit := hp.h.item (.x i) (by simp)
    have hr : rlook cxs' ro (.x i) = cxs'[i] := by simp [rlook, List.getD, hil]
    rw [hr] at hit
    cases hc : cxs'[i] with
    | box cs =>
      rw [hc] at hit
      obtain ⟨_, b', ty, us, h2, h3, h4, h5⟩ := hit
      rw [hp.fr.xb] at h2
      obtain ⟨p', g1, g2, g3⟩ := hxblk h2
      rw [h1] at g1; simp only [Option.some.injEq] at g1; subst g1
      refine ⟨fun id e => ?_, b', ty, us, ?_, h3, by rw [h4, backs_length], backCells hback h5⟩
      ·subst e
       rw [hval_old (fun j => hνnew hpν id j rfl) (fun h => hνr h hpν)]
       obtain ⟨cs0, g4⟩ := hνb h1
       have := hi.h.item (.o id) (by simp)
       rw [g4] at this
       exact this.1 id rfl
      ·rw [hblk_old (hνnew hpν)]; exact g2
    | none => rw [hc] at hb; simp [isBox] at hb
    | v _ => rw [hc] at hb; simp [isBox] at hb
    | row _ _ _ _ => rw [hc] at hb; simp [isBox] at hb
    | que _ _ _ => rw [hc] at hb; simp [isBox] at hb
    | mp _ => rw [hc] at hb; simp [isBox] at hb
    | mpk _ _ _ _ => rw [hc] at hb; simp [isBox] at hb
    | mit _ _ _ _ => rw [hc] at hb; simp [isBox] at hb
    | mpz _ _ => rw [hc] at hb; simp [isBox] at hb
   ·by_cases hn : ∃ k j, p = .o k ∧ nw k = some j
    ·obtain ⟨k, j, rfl, hn⟩ := hn
     obtain ⟨rfl, hj⟩ := hnw.1 hn
     rw [hval2, if_neg hpν, wo_get hj]
     have ho := lookI_obj hobj hj
     have hit := hp.h.item (.o j) (by simp)
     simp only [rlook] at hit
     obtain ⟨hb1, hv1⟩ := hblk_new hn
     cases hc : lookI ro j with
     | box cs =>
       rw [hc] at hit
       obtain ⟨h0, b', ty, us, h2, h3, h4, h5⟩ := hit
       exact ⟨fun id e => by simp only [Pl.o.injEq] at e; subst e; rw [hv1]; exact h0 j rfl, b', ty, us, hb1.trans h2, h3, by rw [h4, backs_length], backCells hback h5⟩
     | row e k' es sh =>
       rw [hc] at hit
       obtain ⟨h0, id, v, us, e1, h2, h3, h4⟩ := hit
       simp only [Pl.o.injEq] at e1; subst e1
       exact ⟨hb1.trans h0, b + j, v, us, rfl, by rw [hv1, List.length_map]; exact h2, by rw [List.length_map]; exact h3, backRow hback h4⟩
     | mp es =>
       rw [hc] at hit
       obtain ⟨h0, b', l, clock, h2, h3, h4, h5⟩ := hit
       exact ⟨fun id e => by simp only [Pl.o.injEq] at e; subst e; rw [hv1]; exact h0 j rfl, b', l, clock, hb1.trans h2, h3, MapRel.ext (E := E') (E' := E2) ⟨fun _ _ h => h, fun _ _ _ => rfl⟩ h4, h5⟩
     | mpk es c pd s =>
       rw [hc] at hit
       obtain ⟨id, b', l, clock, l', ty, v, e1, h2, h3, h4, h5, h6, h7, h8, h9⟩ := hit
       simp only [Pl.o.injEq] at e1; subst e1
       exact ⟨b + j, b', l, clock, l', ty, v, rfl, hb1.trans h2, h3, h4, backK hback h5, h6, by rw [hv1]; exact h7, h8, h9⟩
     | mit _ _ _ _ => rw [hc] at ho; simp [isObj] at ho
     | mpz _ _ => rw [hc] at ho; simp [isObj] at ho
     | que _ _ _ => rw [hc] at ho; simp [isObj] at ho
     | none => rw [hc] at ho; simp [isObj] at ho
     | v _ => rw [hc] at ho; simp [isObj] at ho
    ·have hn' : ∀ k j, p = .o k → nw k ≠ some j := fun k j e h => hn ⟨k, j, e, h⟩
     by_cases hg : ∃ k, p = .o k ∧ k ∈ rs.map (·.2)
     ·obtain ⟨k, rfl, hk⟩ := hg
      rw [hgone hk]
      exact hown_gone hk
     ·have hg' : ∀ k, p = .o k → k ∉ rs.map (·.2) := fun k e h => hg ⟨k, e, h⟩
      rw [hold hpν hn' hg']
      refine (hi.h.item p hps).up x (hblk_old hn') (fun id e => hval_old (fun j => hn' id j e) (hg' id e)) (fun b' hb' => ?_)
      refine hp.fr.old b' (hi.h.size p b' hb') (fun i hx => ?_) (fun j hj => ?_)
      ·obtain ⟨q, g1, g2, g3⟩ := hxblk hx
       have := hi.h.inj p q b' hb' g3
       subst this
       exact hpν (List.mem_of_getElem? g1)
      ·obtain ⟨k, g1, g2⟩ := hown2 hj
       exact hg' k (hi.h.inj p _ b' hb' g2) g1
  ·have hgo : ∀ {p b'}, E2.own p = some b' → ∀ k, p = .o k → k ∉ rs.map (·.2) := fun {p b'} h k e g => by
    subst e; rw [hown_gone g] at h; simp at h
   have hcross : ∀ {j q}, E'.own (.o j) = some b' → E.own q = some b' → (∀ k, q = .o k → k ∉ rs.map (·.2)) → False := fun {j q} h1 h2 h3 => by
    have g2 := hi.h.size q b' h2
    rcases hp.fr.new j b' h1 with g1 | ⟨i, g1⟩
    ·simp only [En.callee2] at g1; omega
    ·obtain ⟨k, g3, g4⟩ := hown2 g1
     exact h3 k (hi.h.inj q _ b' h2 g4) g3
   by_cases n1 : ∃ k j, p = .o k ∧ nw k = some j <;> by_cases n2 : ∃ k j, q = .o k ∧ nw k = some j
   ·obtain ⟨k, j, rfl, hn⟩ := n1
    obtain ⟨k', j', rfl, hn'⟩ := n2
    rw [hown_new hn] at h1; rw [hown_new hn'] at h2
    have := hp.h.inj _ _ b' h1 h2
    simp only [Pl.o.injEq] at this; subst this
    rw [(hnw.1 hn).1, (hnw.1 hn').1]
   ·obtain ⟨k, j, rfl, hn⟩ := n1
    have hq := hgo h2
    rw [hown_new hn] at h1
    rw [hown_old (fun k j e h => n2 ⟨k, j, e, h⟩) hq] at h2
    exact (hcross h1 h2 hq).elim
   ·obtain ⟨k, j, rfl, hn⟩ := n2
    have hq := hgo h1
    rw [hown_new hn] at h2
    rw [hown_old (fun k j e h => n1 ⟨k, j, e, h⟩) hq] at h1
    exact (hcross h2 h1 hq).elim
   ·have hq1 := hgo h1
    have hq2 := hgo h2
    rw [hown_old (fun k j e h => n1 ⟨k, j, e, h⟩) hq1] at h1
    rw [hown_old (fun k j e h => n2 ⟨k, j, e, h⟩) hq2] at h2
    exact hi.h.inj p q b' h1 h2
  ·by_cases n1 : ∃ k j, p = .o k ∧ nw k = some j
   ·obtain ⟨k, j, rfl, hn⟩ := n1
    rw [hown_new hn] at h1
    exact hp.h.size _ b' h1
   ·by_cases hg : ∃ k, p = .o k ∧ k ∈ rs.map (·.2)
    ·obtain ⟨k, rfl, hk⟩ := hg
     rw [hown_gone hk] at h1; simp at h1
    ·rw [hown_old (fun k j e h => n1 ⟨k, j, e, h⟩) (fun k e h => hg ⟨k, e, h⟩)] at h1
     exact Nat.lt_of_lt_of_le (hi.h.size p b' h1) hp.fr.size
  ·by_cases n1 : ∃ k j, p = .o k ∧ nw k = some j
   ·obtain ⟨k, j, rfl, hn⟩ := n1
    rw [hown_new hn] at h2
    obtain ⟨e, k', es, g1, g2⟩ := hp.h.sep b' o h1 _ h2
    obtain ⟨rfl, hj⟩ := hnw.1 hn
    have hpν : Pl.o (b + j) ∉ ν := fun h => hνnew h _ j rfl hn
    refine ⟨e, k', es.map (TV.backs ν b), ?_, by simpa using g2⟩
    rw [hval2, if_neg hpν, wo_get hj]
    simp only [rlook] at g1
    rw [g1]; rfl
   ·have n1' : ∀ k j, p = .o k → nw k ≠ some j := fun k j e h => n1 ⟨k, j, e, h⟩
    by_cases hg : ∃ k, p = .o k ∧ k ∈ rs.map (·.2)
    ·obtain ⟨k, rfl, hk⟩ := hg
     rw [hown_gone hk] at h2; simp at h2
    ·have hg' : ∀ k, p = .o k → k ∉ rs.map (·.2) := fun k e h => hg ⟨k, e, h⟩
     rw [hown_old n1' hg'] at h2
     have hsz := hi.h.size p b' h2
     rcases hp.fr.newst b' o h1 with g1 | g1 | ⟨i, g1⟩
     ·obtain ⟨e, k, es, g2, g3⟩ := hi.h.sep b' o g1 p h2
      refine ⟨e, k, es, ?_, g3⟩
      rw [hold _ n1' hg', g2]
      intro hpν
      obtain ⟨i, hi'⟩ := List.getElem?_of_mem hpν
      obtain ⟨cs, h⟩ := hνb hi'
      rw [h] at g2; simp at g2
     ·simp only [En.callee2] at g1; omega
     ·obtain ⟨k, g3, g4⟩ := hown2 g1
      exact absurd g3 (hg' k (hi.h.inj p _ b' h2 g4))
 have hsl : ∀ k, over t (wx ν b ν cxs' ++ (wo ν b ro ++ wr rs)) (.s k) = t (.s k) := fun k =>
  hold (fun h => hνs h k rfl) (fun _ _ e => by simp at e) (fun _ e => by simp at e)
 have hE0 : ∀ {j b'}, (E.callee2 ν rs).own (.o j) = some b' → A.E0.w.heap.size ≤ b' ∨ ∃ i, A.E0.own (.o i) = some b' := fun {j b'} h => by
  obtain ⟨k, _, g⟩ := hown2 h
  exact hi.fr.new k b' g
 refine ⟨E2, rfl, hi.step hH x (hi.fr.next2 hp.fr.os hp.fr.tape hp.fr.output hp.fr.size (fun b' h1 h2 h3 => ?_) (fun i => rfl) (fun id b' h => ?_) (fun b' o h => hp.fr.st b' o h) (fun b' o h => ?_)) hsl, hback hp.rel⟩
 ·refine hp.fr.old b' (Nat.lt_of_lt_of_le h1 hi.fr.size) (fun i hx => ?_) (fun j hj => ?_)
  ·obtain ⟨q, g1, g2, g3⟩ := hxblk hx
   cases q with
   | s k => rw [hi.h.frees k] at g2; simp at g2
   | x j => exact h2 j ((hi.fr.xb j).symm.trans g2)
   | o k => exact (hi.fr.new k b' g3).elim (fun h => by omega) (fun ⟨j, h⟩ => h3 j h)
  ·exact (hE0 hj).elim (fun h => by omega) (fun ⟨j, h⟩ => h3 j h)
 ·cases hn : nw id with
  | some j =>
    rw [hown_new hn] at h
    rcases hp.fr.new j b' h with g | ⟨i, g⟩
    ·exact .inr g
    ·obtain ⟨k, _, g2⟩ := hown2 g
     exact .inl ⟨k, g2⟩
  | none =>
    by_cases hk : id ∈ rs.map (·.2)
    ·rw [hown_gone hk] at h; simp at h
    ·rw [hown_old (fun k j e h => by simp only [Pl.o.injEq] at e; subst e; rw [hn] at h; simp at h) (fun k e => by simp only [Pl.o.injEq] at e; subst e; exact hk)] at h
     exact .inl ⟨id, h⟩
 ·rcases hp.fr.newst b' o h with g | g | ⟨i, g⟩
  ·exact .inl g
  ·exact .inr (.inl (Nat.le_trans hi.fr.size g))
  ·exact .inr (hE0 g)
variable {ops : Array Oper}
theorem Sum.call2 {t : S} {i : Nat} {o : Oper} {gp : List Pl} {fo : Operand} {xs : List Operand} {tys : Array TypeId} {f : FuncId} {caps cargs : List TV} {cxs cxs' : List It} {ri : List (Nat × It)} {r : TV} {ro : List (Nat × It)}
  (ho : ops[i]? = some o) (hg : gv ops t o = some (gp, true)) (hd : dstOK A.N o = true) (hop : o.op = .call { callee := .value fo, args := xs.toArray, argTypes := tys }) (hf : ev t fo = .clo f caps) (hfn : fnOK P f = true)
  (C : Contract2 P f cargs cxs ri r cxs' ro) (ν : List Pl) (rs : List (Nat × Nat)) (b : Nat) (hν : ν.Nodup) (hνp : ∀ p ∈ ν, isPl p = true) (hp : TV.pass2s ν rs (xs.map (ev t) ++ caps) = some cargs) (hI : passI2s t ν rs ν = some cxs)
  (hr1 : (rs.map (·.1)).Nodup) (hr2 : (rs.map (·.2)).Nodup) (hri : rsIn t ν rs rs = some ri)
  (hl : cxs'.length = ν.length) (hbox : ∀ i ∈ cxs', isBox i = true) (hobj : ∀ x ∈ ro, isObj x.2 = true) (hfree : ∀ x ∈ ro, t (.o (b + x.1)) = .none) :
  Sum P A ops i t (gp ++ (pl fo ++ (xs.flatMap pl ++ (ν ++ ((rs.map fun x => .o x.2) ++ ro.map fun x => .o (b + x.1))))))
   (dstW o (r.back ν b) (wx ν b ν cxs' ++ (wo ν b ro ++ wr rs))) := fun t' hr a w ⟨E, hw, hi⟩ K Q hK => by
 subst hw
 have hwant := gv_wanted hg (pl_left hr) hi
 have hr1' := pl_right hr
 have hr2' := pl_right hr1'
 have hr3 := pl_right hr2'
 have hr4 := pl_right hr3
 have hfo : ev t' fo = .clo f caps := (ev_eq (pl_left hr1')).trans hf
 have hxs : xs.map (ev t') = xs.map (ev t) := evs_eq (pl_left hr2')
 have hνt : ∀ p ∈ ν, t' p = t p := pl_left hr3
 have hrst : ∀ x ∈ rs, t' (.o x.2) = t (.o x.2) := fun x hx => (pl_left hr4) (.o x.2) (List.mem_map.2 ⟨x, hx, rfl⟩)
 have hnewt : ∀ x ∈ ro, t' (.o (b + x.1)) = .none := fun x hx => ((pl_right hr4) (.o (b + x.1)) (List.mem_map.2 ⟨x, hx, rfl⟩)).trans (hfree x hx)
 have hI' : passI2s t' ν rs ν = some cxs := (passI2s_eq hνt).trans hI
 have hri' : rsIn t' ν rs rs = some ri := (rsIn_eq hrst).trans hri
 have hfr := ev_rel hi fo
 rw [hfo] at hfr
 simp only [RelV] at hfr
 obtain ⟨ucap, hufo, hucap⟩ := hfr
 have hxr := evs_rel hi xs
 rw [hxs] at hxr
 have happ : ∀ {ts ts' : List TV} {us us' : List Value}, RelVs E ts us → RelVs E ts' us' → RelVs E (ts ++ ts') (us ++ us') := by
  intro ts
  induction ts with
  | nil => intro ts' us us' h g; simp only [RelVs] at h; subst h; simpa using g
  | cons v ts ih =>
    intro ts' us us' h g
    simp only [RelVs] at h
    obtain ⟨u, us0, rfl, h1, h2⟩ := h
    simp only [List.cons_append, RelVs]
    exact ⟨u, us0 ++ us', rfl, h1, ih h2 g⟩
 have hargs := happ hxr hucap
 have hcargs : RelVs (E.callee2 ν rs) cargs (xs.map a.eval ++ ucap.toList) := pass2s_rel hr1 hp hargs
 have hH0 : HInv (E.callee2 ν rs) (rlook cxs ri) := HInv.callee2 hi hν hI' hνp hr1 hr2 hri'
 have hcall := C (E.callee2 ν rs) _ hH0 hcargs
 have hwc : (E.callee2 ν rs).w = E.w := rfl
 rw [hwc] at hcall
 unfold wpOp
 simp only [ho, hwant, if_true]
 refine .inl ?_
 unfold Oper.wp
 have hrun : (execOp a.eval o).run P E.w = .ok (.enter f (xs.map a.eval ++ ucap.toList).toArray) E.w := by
  have harr : (List.map a.eval xs ++ ucap.toList).toArray = (List.map a.eval xs).toArray ++ ucap := by simp
  simp only [execOp, hop, resolve, hufo, Deferred.ofValue, invoke, Sem.run_bind, Sem.run_pure, Result.andThen_ok, List.map_toArray, Array.empty_append, run_callFunc hfn, harr]
 rw [hrun]
 simp only [Oper.upon]
 refine hcall.mono fun e w' ⟨u, E', he, hw', hpost⟩ => ?_
 subst he
 obtain ⟨E2, hw2, hi2, hr2'⟩ := hi.called2 hν hνp hI' hr1 hr2 hri' hl hbox hobj hnewt hpost
 refine hK _ _ ⟨E2, hw2.trans hw', InvE.dst ?_ hd hr2'⟩
 exact hi2
def callW2 (P : Program) (N : Nat) (t : S) (o : Oper) (f : FuncId) (cargs : List TV) (cxs : List It) (ri : List (Nat × It)) (r : TV) (cxs' : List It) (ro : List (Nat × It)) (ν : List Pl) (rs : List (Nat × Nat)) (b : Nat) (gp : List Pl) (g : Bool) : Option (Prop × List Pl × List (Pl × It)) :=
 match o.op with
 | .call { callee := .value fo, args := xs, argTypes := _ } =>
   match ev t fo with
   | .clo f' caps =>
     match passI2s t ν rs ν, TV.pass2s ν rs (xs.toList.map (ev t) ++ caps), rsIn t ν rs rs with
     | some c0, some a0, some r0 =>
       some (g = true ∧ dstOK N o = true ∧ f' = f ∧ fnOK P f = true ∧ ν.Nodup ∧ (∀ p ∈ ν, isPl p = true) ∧ a0 = cargs ∧ c0 = cxs ∧ (rs.map (·.1)).Nodup ∧ (rs.map (·.2)).Nodup ∧ r0 = ri ∧
        cxs'.length = ν.length ∧ (∀ x ∈ cxs', isBox x = true) ∧ (∀ x ∈ ro, isObj x.2 = true) ∧ (∀ x ∈ ro, t (.o (b + x.1)) = .none),
        gp ++ (pl fo ++ (xs.toList.flatMap pl ++ (ν ++ ((rs.map fun x => .o x.2) ++ ro.map fun x => .o (b + x.1))))),
        dstW o (r.back ν b) (wx ν b ν cxs' ++ (wo ν b ro ++ wr rs)))
     | _, _, _ => none
   | _ => none
 | _ => none
def callO2 (P : Program) (N : Nat) (t : S) (ops : Array Oper) (f : FuncId) (cargs : List TV) (cxs : List It) (ri : List (Nat × It)) (r : TV) (cxs' : List It) (ro : List (Nat × It)) (ν : List Pl) (rs : List (Nat × Nat)) (b : Nat) : Option Oper → Option (Prop × List Pl × List (Pl × It))
 | some o => match gv ops t o with
   | some (gp, g) => callW2 P N t o f cargs cxs ri r cxs' ro ν rs b gp g
   | none => none
 | none => none
theorem ACall.of2 {i : Nat} {t : S} {k : List Pl → List (Pl × It) → Prop} {g : Tg k} {f : FuncId} {cargs : List TV} {cxs cxs' : List It} {ri : List (Nat × It)} {r : TV} {ro : List (Nat × It)} (C : Contract2 P f cargs cxs ri r cxs' ro) (ν : List Pl) (rs : List (Nat × Nat)) (b : Nat)
  (h : AGo k g (callO2 P A.N t ops f cargs cxs ri r cxs' ro ν rs b ops[i]?)) : ACall P A ops i t k g := by
 unfold AGo at h
 split at h
 ·rename_i D rp W hc
  obtain ⟨h1, h2⟩ := h
  refine ⟨rp, W, ?_, h2⟩
  unfold callO2 at hc
  split at hc
  ·rename_i o ho
   split at hc
   ·rename_i gp g0 hg
    unfold callW2 at hc
    split at hc
    ·rename_i fo xs tys hop
     split at hc
     ·rename_i f' caps hf
      split at hc
      ·rename_i c0 a0 r0 hI hp hri
       simp only [Option.some.injEq, Prod.mk.injEq] at hc
       obtain ⟨rfl, rfl, rfl⟩ := hc
       obtain ⟨rfl, q1, rfl, q2, q3, q4, rfl, rfl, q5, q6, rfl, q8, q9, q10, q11⟩ := h1
       exact Sum.call2 (xs := xs.toList) ho hg q1 (by simpa using hop) hf q2 C ν rs b q3 q4 hp hI q5 q6 hri q8 q9 q10 q11
      ·simp at hc
     ·simp at hc
    ·simp at hc
   ·simp at hc
  ·simp at hc
 ·exact h.elim
theorem contract2_of {f : FuncId} {fn : Func} {c : Code} {args : List TV} {xs : List It} {ri : List (Nat × It)} {r : TV} {xs' : List It} {ro : List (Nat × It)} (hf : P.funcs[f]? = some fn) (hb : fn.body = some c)
  (h : ∀ E0, AW P ⟨E0, fn.ntmps⟩ c (fin P ⟨E0, fn.ntmps⟩ fn r xs' ro) (look (entL args 0 ++ (xL xs 0 ++ oL ri)))) : Contract2 P f args xs ri r xs' ro := fun E us hH hargs => by
 refine calls_of_wp hf hb (Code.wp_mono (fun e a w hq => ?_) (h E { tmps := us.toArray ++ Array.replicate (fn.ntmps - us.toArray.size) undef, defers := [] } E.w ⟨E, rfl, ⟨?_, ?_, ?_, rfl, ?_⟩⟩))
 ·obtain ⟨t, hi, hq⟩ := hq
  have key : Fin P ⟨E, fn.ntmps⟩ fn r xs' ro t → a.defers = [] ∧ ∃ v, (results fn a.tmps).run P w = .ok v w ∧ ∃ u E', Ending.returned v = .returned u ∧ E'.w = w ∧ Post E xs' ro r u E' := fun hF => by
   obtain ⟨u, E', h1, h2, h3⟩ := hF a w hi
   obtain ⟨E1, _, hi1⟩ := hi
   exact ⟨hi1.defers, u, h1, u, E', rfl, h2, h3⟩
  cases e <;> first
   | exact hq.elim
   | exact key hq
 ·refine hH.congr fun p hp => ?_
  rw [entL_other hp]
  cases p with
  | s k => exact absurd rfl (hp k)
  | x i =>
    rw [xL_x]
    simp only [rlook, Nat.zero_le, true_and, Nat.zero_add, Nat.sub_zero]
    split
    ·rfl
    ·rename_i h
     rw [oL_other (fun k e => by simp at e), List.getD, List.getElem?_eq_none (by omega)]; rfl
  | o k => rw [xL_other (fun j e => by simp at e), oL_o]; rfl
 ·exact ⟨rfl, rfl, rfl, Nat.le_refl _, fun _ _ _ _ => rfl, fun _ => rfl, fun id b hb => .inr ⟨id, hb⟩, fun _ _ h => h, fun _ _ h => .inl h⟩
 ·intro k tv hk
  rw [entL_s] at hk
  simp only [Nat.zero_le, true_and, Nat.zero_add, Nat.sub_zero] at hk
  have hx : look (xL xs 0 ++ oL ri) (.s k) = .none := by
   rw [xL_other (fun j e => by simp at e), oL_other (fun j e => by simp at e)]
  split at hk
  ·rename_i hlt
   have hak : args[k]? = some args[k] := List.getElem?_eq_getElem hlt
   rw [hak] at hk
   simp only [It.v.injEq] at hk
   subst hk
   obtain ⟨u, h1, h2⟩ := hargs.get hak
   refine ⟨u, ?_, h2⟩
   have hl : k < us.length := by rw [hargs.length]; exact hlt
   rw [Array.getElem?_append_left (by simpa using hl)]
   simpa using h1
  ·rw [hx] at hk; simp at hk
 ·simp; omega
theorem pass2s_map (ν : List Pl) (rs : List (Nat × Nat)) : ∀ l : List D, TV.pass2s ν rs (l.map .d) = some (l.map .d)
 | [] => rfl
 | x :: l => by simp [TV.pass2s, TV.pass2, pass2s_map ν rs l]
theorem passEs_dd (ν : List Pl) (rs : List (Nat × Nat)) : ∀ l : List (List D), passEs ν rs (dd l) = some (dd l)
 | [] => rfl
 | x :: l => by
   have := passEs_dd ν rs l
   simp only [dd] at this
   simp only [dd, List.map_cons, passEs, pass2s_map, this]
theorem passEs_app (ν : List Pl) (rs : List (Nat × Nat)) : ∀ a b : List (List TV), passEs ν rs (a ++ b) = match passEs ν rs a, passEs ν rs b with
  | some x, some y => some (x ++ y)
  | _, _ => none
 | [], b => by cases h : passEs ν rs b <;> simp [passEs, h]
 | e :: a, b => by
   simp only [List.cons_append, passEs, passEs_app ν rs a b]
   cases TV.pass2s ν rs e <;> cases passEs ν rs a <;> cases passEs ν rs b <;> rfl
theorem passI2_box (ν : List Pl) (rs : List (Nat × Nat)) (cs : List TV) : passI2 ν rs (.box cs) = match TV.pass2s ν rs cs with | some cs => some (.box cs) | none => none := rfl
attribute [simp] callO2 callW2 TV.pass2 TV.pass2s passI2s passI2_box rsOf rsTo rsIn wr passR passEs passEs_dd passEs_app
end
end Go.Tr
