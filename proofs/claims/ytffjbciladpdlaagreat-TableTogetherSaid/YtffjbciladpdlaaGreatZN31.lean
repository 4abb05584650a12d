/-
  What functions of the program compute, stated as contracts over plain data; the conditions of each stand in its own statement.
-/
import Derived.Test.YtffjbciladpdlaaGreatZN24
set_option linter.unusedSimpArgs false
set_option linter.unusedVariables false
namespace Go.Tr
open Go
mutual
def TV.pass3 (ν : List Pl) (rs : List (Nat × Nat)) : TV → Option TV
 | .junk => some .junk
 | .d x => some (.d x)
 | .c v => some (.c v)
 | .agg vs => match TV.pass3s ν rs vs with | some vs => some (.agg vs) | none => none
 | .tup _ => none
 | .oref id n => match rsOf rs id with | some j => some (.oref j n) | none => none
 | .ptr p q => match idxP p ν 0 with | some i => some (.ptr (.x i) q) | none => none
 | .ep e q => some (.ep e q)
 | .eptr _ _ _ _ => none
 | .mref id => match rsOf rs id with | some j => some (.mref j) | none => none
 | .sx _ => none
 | .osl _ _ _ => none
 | .clo f vs => match TV.pass3s ν rs vs with | some vs => some (.clo f vs) | none => none
def TV.pass3s (ν : List Pl) (rs : List (Nat × Nat)) : List TV → Option (List TV)
 | [] => some []
 | v :: vs => match TV.pass3 ν rs v, TV.pass3s ν rs vs with
   | some v, some vs => some (v :: vs)
   | _, _ => none
end
section
variable {P : Program} {A : Actv}
def En.callee3 (E : En) (ν : List Pl) (rs : List (Nat × Nat)) : En :=
 { w := E.w, St := E.St, blk := fun p => match p with | .x i => (ν[i]?).bind E.blk | .o j => (rsTo rs j).bind fun k => E.blk (.o k) | _ => none, val := fun j => (rsTo rs j).bind E.val }
theorem callee3_r (E : En) (ν : List Pl) (rs : List (Nat × Nat)) : ExtR E (E.callee3 ν rs) := ⟨fun _ _ h => h, fun _ _ _ => rfl⟩
mutual
theorem pass3_rel {ν : List Pl} {rs : List (Nat × Nat)} {E : En} (hn : (rs.map (·.1)).Nodup) : ∀ {v v' : TV} {u : Value}, v.pass3 ν rs = some v' → RelV E v u → RelV (E.callee3 ν rs) v' u
 | .junk, v', u, h, _ => by simp only [TV.pass3, Option.some.injEq] at h; subst h; simp only [RelV]
 | .d x, v', u, h, hr => by
   simp only [TV.pass3, Option.some.injEq] at h; subst h
   simp only [RelV] at hr ⊢
   exact Rep.ext (callee3_r E ν rs) x u hr
 | .c v, v', u, h, hr => by
   simp only [TV.pass3, Option.some.injEq] at h
   simp only [RelV] at hr
   subst hr
   subst h; simp only [RelV]
 | .agg vs, v', u, h, hr => by
   simp only [TV.pass3] at h
   split at h
   ·rename_i vs' hv
    simp only [Option.some.injEq] at h; subst h
    simp only [RelV] at hr ⊢
    obtain ⟨us, hu, hs⟩ := hr
    exact ⟨us, hu, pass3s_rel hn hv hs⟩
   ·simp at h
 | .tup vs, v', u, h, _ => by simp [TV.pass3] at h
 | .oref id n, v', u, h, hr => by
   simp only [TV.pass3] at h
   split at h
   ·rename_i j hj
    simp only [Option.some.injEq] at h; subst h
    simp only [RelV] at hr ⊢
    obtain ⟨h1, k, c, v, h2, h3⟩ := hr
    exact ⟨h1, k, c, v, by simp only [En.callee3, rsTo_of hn (rsOf_mem hj), Option.bind_some]; exact h2, h3⟩
   ·simp at h
 | .ptr p q, v', u, h, hr => by
   simp only [TV.pass3] at h
   split at h
   ·rename_i i hi
    simp only [Option.some.injEq] at h; subst h
    simp only [RelV] at hr ⊢
    obtain ⟨b, hb, hu⟩ := hr
    obtain ⟨_, h2⟩ := idxP_spec hi
    exact ⟨b, by simpa [En.callee3, h2] using (by simpa using h2 : ν[i]? = some p) ▸ hb, hu⟩
   ·simp at h
 | .ep e q, v', u, h, hr => by
   simp only [TV.pass3, Option.some.injEq] at h; subst h
   simp only [RelV] at hr ⊢
   obtain ⟨b, o, hu, hc⟩ := hr
   exact ⟨b, o, hu, RepCells.ext (callee3_r E ν rs) b o e hc⟩
 | .eptr _ _ _ _, v', u, h, _ => by simp [TV.pass3] at h
 | .mref id, v', u, h, hr => by
   simp only [TV.pass3] at h
   split at h
   ·rename_i j hj
    simp only [Option.some.injEq] at h; subst h
    simp only [RelV] at hr ⊢
    obtain ⟨b, h1, h2⟩ := hr
    exact ⟨b, by simp only [En.callee3, rsTo_of hn (rsOf_mem hj), Option.bind_some]; exact h1, h2⟩
   ·simp at h
 | .sx _, v', u, h, _ => by simp [TV.pass3] at h
 | .osl _ _ _, v', u, h, _ => by simp [TV.pass3] at h
 | .clo f vs, v', u, h, hr => by
   simp only [TV.pass3] at h
   split at h
   ·rename_i vs' hv
    simp only [Option.some.injEq] at h; subst h
    simp only [RelV] at hr ⊢
    obtain ⟨us, hu, hs⟩ := hr
    exact ⟨us, hu, pass3s_rel hn hv hs⟩
   ·simp at h
theorem pass3s_rel {ν : List Pl} {rs : List (Nat × Nat)} {E : En} (hn : (rs.map (·.1)).Nodup) : ∀ {vs vs' : List TV} {us : List Value}, TV.pass3s ν rs vs = some vs' → RelVs E vs us → RelVs (E.callee3 ν rs) vs' us
 | [], vs', us, h, hr => by
   simp only [TV.pass3s, Option.some.injEq] at h; subst h
   simpa only [RelVs] using hr
 | v :: vs, vs', us, h, hr => by
   simp only [TV.pass3s] at h
   split at h
   ·rename_i v1 vs1 h1 h2
    simp only [Option.some.injEq] at h; subst h
    simp only [RelVs] at hr ⊢
    obtain ⟨u, us', hu, g1, g2⟩ := hr
    exact ⟨u, us', hu, pass3_rel hn h1 g1, pass3s_rel hn h2 g2⟩
   ·simp at h
end
def passI3 (ν : List Pl) (rs : List (Nat × Nat)) : It → Option It
 | .box cs => match TV.pass3s ν rs cs with | some cs => some (.box cs) | none => none
 | _ => none
def passI3s (t : S) (ν : List Pl) (rs : List (Nat × Nat)) : List Pl → Option (List It)
 | [] => some []
 | p :: l => match passI3 ν rs (t p), passI3s t ν rs l with
   | some i, some is => some (i :: is)
   | _, _ => none
theorem passI3s_spec {t : S} {ν : List Pl} {rs : List (Nat × Nat)} : ∀ {l : List Pl} {xs : List It}, passI3s t ν rs l = some xs → xs.length = l.length ∧ ∀ (i : Nat) (p : Pl), l[i]? = some p → ∃ cs cs', t p = .box cs ∧ TV.pass3s ν rs cs = some cs' ∧ xs[i]? = some (.box cs')
 | [], xs, h => by simp only [passI3s, Option.some.injEq] at h; subst h; simp
 | p :: l, xs, h => by
   simp only [passI3s] at h
   split at h
   ·rename_i it is h1 h2
    simp only [Option.some.injEq] at h; subst h
    obtain ⟨h3, h4⟩ := passI3s_spec h2
    refine ⟨by simp [h3], fun i q hq => ?_⟩
    cases i with
    | zero =>
      simp at hq; subst hq
      unfold passI3 at h1
      split at h1
      ·rename_i cs hcs
       split at h1
       ·rename_i cs' hcs'
        simp only [Option.some.injEq] at h1; subst h1
        exact ⟨cs, cs', hcs, hcs', by simp⟩
       ·simp at h1
      ·simp at h1
    | succ i => simpa using h4 i q (by simpa using hq)
   ·simp at h
theorem pass3s_one {ν : List Pl} {rs : List (Nat × Nat)} : ∀ {vs vs' : List TV}, TV.pass3s ν rs vs = some vs' → vs'.length = vs.length
 | [], vs', h => by simp only [TV.pass3s, Option.some.injEq] at h; subst h; rfl
 | v :: vs, vs', h => by
   simp only [TV.pass3s] at h
   split at h
   ·rename_i h1 h2
    simp only [Option.some.injEq] at h; subst h
    simp [pass3s_one h2]
   ·simp at h
theorem pass3Cells {ν : List Pl} {rs : List (Nat × Nat)} {E : En} (hn : (rs.map (·.1)).Nodup) {us : List Value} : ∀ {o : Nat} {vs vs' : List TV}, TV.pass3s ν rs vs = some vs' → CellsRel E us o vs → CellsRel (E.callee3 ν rs) us o vs'
 | o, [], vs', h, _ => by simp only [TV.pass3s, Option.some.injEq] at h; subst h; trivial
 | o, v :: vs, vs', h, ⟨⟨u, h1, h2, h3⟩, hr⟩ => by
   simp only [TV.pass3s] at h
   split at h
   ·rename_i v1 vs1 g1 g2
    simp only [Option.some.injEq] at h; subst h
    exact ⟨⟨u, h1, h2, pass3_rel hn g1 h3⟩, pass3Cells hn g2 hr⟩
   ·simp at h
def passEs3 (ν : List Pl) (rs : List (Nat × Nat)) : List (List TV) → Option (List (List TV))
 | [] => some []
 | e :: es => match TV.pass3s ν rs e, passEs3 ν rs es with
   | some e, some es => some (e :: es)
   | _, _ => none
def passK3 (ν : List Pl) (rs : List (Nat × Nat)) : List (List Int × TV) → Option (List (List Int × TV))
 | [] => some []
 | (k, v) :: es => match TV.pass3 ν rs v, passK3 ν rs es with
   | some v, some es => some ((k, v) :: es)
   | _, _ => none
def passR3 (ν : List Pl) (rs : List (Nat × Nat)) : It → Option It
 | .row e z es false => match passEs3 ν rs es with | some es => some (.row e z es false) | none => none
 | .mpk es c pd none => match passK3 ν rs es with | some es => some (.mpk es c pd none) | none => none
 | _ => none
def isRM (i : It) : Prop := (∃ e z es, i = .row e z es false) ∨ ∃ es c pd, i = .mpk es c pd none
theorem passR3_spec {ν : List Pl} {rs : List (Nat × Nat)} {i i' : It} (h : passR3 ν rs i = some i') : (∃ e z es es', i = .row e z es false ∧ passEs3 ν rs es = some es' ∧ i' = .row e z es' false) ∨
  ∃ es c pd es', i = .mpk es c pd none ∧ passK3 ν rs es = some es' ∧ i' = .mpk es' c pd none := by
 unfold passR3 at h
 split at h
 ·rename_i e z es
  split at h
  ·rename_i es' hes
   simp only [Option.some.injEq] at h
   exact .inl ⟨e, z, es, es', rfl, hes, h.symm⟩
  ·simp at h
 ·rename_i es c pd
  split at h
  ·rename_i es' hes
   simp only [Option.some.injEq] at h
   exact .inr ⟨es, c, pd, es', rfl, hes, h.symm⟩
  ·simp at h
 ·simp at h
theorem passK3_rel {ν : List Pl} {rs : List (Nat × Nat)} {E : En} (hn : (rs.map (·.1)).Nodup) : ∀ {es es' : List (List Int × TV)} {l : List MapEntry}, passK3 ν rs es = some es' → KRel E es l → KRel (E.callee3 ν rs) es' l
 | [], _, _, h, hr => by simp only [passK3, Option.some.injEq] at h; subst h; exact hr
 | (k, v) :: es, es', l, h, hr => by
   simp only [passK3] at h
   split at h
   ·rename_i v1 es1 g1 g2
    simp only [Option.some.injEq] at h; subst h
    simp only [KRel] at hr ⊢
    obtain ⟨a, l', h1, h2, h3, h4⟩ := hr
    exact ⟨a, l', h1, h2, pass3_rel hn g1 h3, passK3_rel hn g2 h4⟩
   ·simp at h
theorem passEs3_len {ν : List Pl} {rs : List (Nat × Nat)} : ∀ {es es' : List (List TV)}, passEs3 ν rs es = some es' → es'.length = es.length
 | [], _, h => by simp only [passEs3, Option.some.injEq] at h; subst h; rfl
 | e :: es, _, h => by
   simp only [passEs3] at h
   split at h
   ·rename_i h1 h2
    simp only [Option.some.injEq] at h; subst h
    simp [passEs3_len h2]
   ·simp at h
theorem passEs3_rows {ν : List Pl} {rs : List (Nat × Nat)} {E : En} (hn : (rs.map (·.1)).Nodup) {us : List Value} {k : Nat} : ∀ {o : Nat} {es es' : List (List TV)}, passEs3 ν rs es = some es' → RowRel E us k o es → RowRel (E.callee3 ν rs) us k o es'
 | _, [], _, h, _ => by simp only [passEs3, Option.some.injEq] at h; subst h; trivial
 | _, e :: es, _, h, ⟨h1, h2, hr⟩ => by
   simp only [passEs3] at h
   split at h
   ·rename_i g1 g2
    simp only [Option.some.injEq] at h; subst h
    exact ⟨by rw [pass3s_one g1]; exact h1, pass3Cells hn g1 h2, passEs3_rows hn g2 hr⟩
   ·simp at h
def rsIn3 (t : S) (ν : List Pl) (rs : List (Nat × Nat)) : List (Nat × Nat) → Option (List (Nat × It))
 | [] => some []
 | (j, k) :: l => match passR3 ν rs (t (.o k)), rsIn3 t ν rs l with
   | some i, some r => some ((j, i) :: r)
   | _, _ => none
theorem rsIn3_look {t : S} {ν : List Pl} {rs : List (Nat × Nat)} {j : Nat} : ∀ {l : List (Nat × Nat)} {ri : List (Nat × It)}, rsIn3 t ν rs l = some ri → (rsTo l j = none → lookI ri j = .none) ∧ ∀ k, rsTo l j = some k → passR3 ν rs (t (.o k)) = some (lookI ri j)
 | [], ri, h => by
   simp only [rsIn3, Option.some.injEq] at h; subst h
   exact ⟨fun _ => rfl, fun k h => by simp [rsTo] at h⟩
 | (a, b) :: l, ri, h => by
   simp only [rsIn3] at h
   split at h
   ·rename_i i r h1 h2
    simp only [Option.some.injEq] at h; subst h
    obtain ⟨g1, g2⟩ := rsIn3_look (j := j) h2
    simp only [rsTo, lookI]
    by_cases e : j = a
    ·simp only [if_pos e]
     exact ⟨fun h => by simp at h, fun k h => by simp only [Option.some.injEq] at h; subst h; exact h1⟩
    ·simp only [if_neg e]
     exact ⟨g1, g2⟩
   ·simp at h
theorem rsIn3_mem {t : S} {ν : List Pl} {rs : List (Nat × Nat)} : ∀ {l : List (Nat × Nat)} {ri : List (Nat × It)}, rsIn3 t ν rs l = some ri → ∀ x ∈ l, isRM (t (.o x.2))
 | [], _, _, x, hx => by simp at hx
 | (a, b) :: l, ri, h, x, hx => by
   simp only [rsIn3] at h
   split at h
   ·rename_i i r h1 h2
    rcases List.mem_cons.1 hx with rfl | hx
    ·rcases passR3_spec h1 with ⟨e, z, es, _, h3, _⟩ | ⟨es, c, pd, _, h3, _⟩
     ·exact .inl ⟨e, z, es, h3⟩
     ·exact .inr ⟨es, c, pd, h3⟩
    ·exact rsIn3_mem h2 x hx
   ·simp at h
theorem callee3_own {E : En} {ν : List Pl} {rs : List (Nat × Nat)} {p : Pl} {b : Nat} (h : (E.callee3 ν rs).own p = some b) :
  (∃ i q, p = .x i ∧ ν[i]? = some q ∧ E.blk q = some b ∧ E.own q = some b) ∨ (∃ j k, p = .o j ∧ (j, k) ∈ rs ∧ rsTo rs j = some k ∧ E.own (.o k) = some b) := by
 cases p with
 | s k => simp [En.own, En.callee3] at h
 | x i =>
   left
   unfold En.own at h
   split at h
   ·rename_i b2 hb
    simp only [Option.some.injEq] at h; subst h
    have hb : (ν[i]?).bind E.blk = some b2 := hb
    cases hp : ν[i]? with
    | none => simp [hp] at hb
    | some p =>
      simp only [hp, Option.bind_some] at hb
      exact ⟨i, p, rfl, hp, hb, by simp [En.own, hb]⟩
   ·simp at h
 | o j =>
   right
   simp only [En.own, En.callee3] at h
   cases hk : rsTo rs j with
   | none => simp [hk] at h
   | some k =>
     simp only [hk, Option.bind_some] at h
     exact ⟨j, k, rfl, rsTo_mem hk, hk, h⟩
theorem isRM_box {i : It} (h : isRM i) {cs : List TV} : i ≠ .box cs := by
 rcases h with ⟨e, z, es, rfl⟩ | ⟨es, c, pd, rfl⟩ <;> simp
theorem isRM_sh {i : It} (h : isRM i) {e k : Nat} {es : List (List TV)} : i ≠ .row e k es true := by
 rcases h with ⟨e, z, es, rfl⟩ | ⟨es, c, pd, rfl⟩ <;> simp
theorem isRM_none {i : It} (h : isRM i) : i ≠ .none := by
 rcases h with ⟨e, z, es, rfl⟩ | ⟨es, c, pd, rfl⟩ <;> simp
theorem HInv.callee3 {t : S} {a : Act} {E : En} (hi : InvE A t a E) {ν : List Pl} {rs : List (Nat × Nat)} {cxs : List It} (hν : ν.Nodup) (hI : passI3s t ν rs ν = some cxs) (hνp : ∀ p ∈ ν, isPl p = true)
  (hr1 : (rs.map (·.1)).Nodup) (hr2 : (rs.map (·.2)).Nodup) {ri : List (Nat × It)} (hrs : rsIn3 t ν rs rs = some ri) : HInv (E.callee3 ν rs) (rlook cxs ri) := by
 obtain ⟨hl0, hIs⟩ := passI3s_spec hI
 have hrow : ∀ {j k}, (j, k) ∈ rs → isRM (t (.o k)) := fun h => rsIn3_mem hrs _ h
 refine ⟨fun p hps => ?_, fun k => rfl, fun p q b' h1 h2 => ?_, fun p b' h1 => ?_, fun b' o h => hi.h.stsz b' o h, fun b' o h p hp => ?_, fun y hy => RepCells.ext (callee3_r E ν rs) _ _ _ (hi.h.gl y hy)⟩
 ·cases p with
  | s k => exact absurd rfl (hps k)
  | o j =>
    simp only [rlook]
    obtain ⟨hl1, hl2⟩ := rsIn3_look (j := j) hrs
    cases hk : rsTo rs j with
    | none => rw [hl1 hk]; exact fun id e => by simp only [Pl.o.injEq] at e; subst e; exact ⟨by simp [En.callee3, hk], by simp [En.callee3, hk]⟩
    | some k =>
      have hit := hi.h.item (.o k) (by simp)
      rcases passR3_spec (hl2 k hk) with ⟨e, z, es, es', h4, h5, h6⟩ | ⟨es, c, pd, es', h4, h5, h6⟩
      ·rw [h6]
       simp only [h4] at hit
       obtain ⟨g0, id, v, us, g1, g2, g3, g4⟩ := hit
       simp only [Pl.o.injEq] at g1; subst g1
       refine ⟨by simp only [En.callee3, hk, Option.bind_some]; exact g0, j, v, us, rfl, by simp only [En.callee3, hk, Option.bind_some]; rw [passEs3_len h5]; exact g2, ?_, passEs3_rows hr1 h5 g4⟩
       rw [passEs3_len h5]; exact g3
      ·rw [h6]
       simp only [h4] at hit
       obtain ⟨id, b, l, clock, l', ty, v, g1, g2, g3, g4, g5, g6, g7, g8, g9⟩ := hit
       simp only [Pl.o.injEq] at g1; subst g1
       exact ⟨j, b, l, clock, l', ty, v, rfl, by simp only [En.callee3, hk, Option.bind_some]; exact g2, g3, g4, passK3_rel hr1 h5 g5, g6, by simp only [En.callee3, hk, Option.bind_some]; exact g7, g8, g9⟩
  | x i =>
    cases hp : ν[i]? with
    | none =>
      have : cxs.length ≤ i := by rw [hl0]; exact List.getElem?_eq_none_iff.1 hp
      simp only [rlook, List.getD, List.getElem?_eq_none this, Option.getD_none]
      exact fun id h => by simp at h
    | some p =>
      obtain ⟨cs, cs', h1, h2, h3⟩ := hIs i p hp
      have hpm := List.mem_of_getElem? hp
      simp only [rlook, List.getD, h3, Option.getD_some]
      have hps' : ∀ k, p ≠ .s k := fun k e => by subst e; have := hνp _ hpm; simp [isPl] at this
      have hit := hi.h.item p hps'
      rw [h1] at hit
      obtain ⟨_, b', ty, us, g1, g2, g3, g4⟩ := hit
      refine ⟨fun id h => by simp at h, b', ty, us, ?_, g2, by rw [g3, pass3s_one h2], pass3Cells hr1 h2 g4⟩
      show (ν[i]?).bind E.blk = some b'
      rw [hp]; exact g1
 ·rcases callee3_own h1 with ⟨i, p', rfl, k1, _, k2⟩ | ⟨j, k, rfl, m1, _, o1⟩ <;> rcases callee3_own h2 with ⟨i', q', rfl, k3, _, k4⟩ | ⟨j', k', rfl, m2, _, o2⟩
  ·have := hi.h.inj p' q' b' k2 k4
   subst this
   have e1 := (List.getElem?_eq_some_iff.1 k1).2
   have e2 := (List.getElem?_eq_some_iff.1 k3).2
   rw [(List.getElem_inj hν).1 (e1.trans e2.symm)]
  ·have := hi.h.inj p' (.o k') b' k2 o2
   subst this
   obtain ⟨cs, _, g1, _⟩ := hIs i _ k1
   exact absurd g1 (isRM_box (hrow m2))
  ·have := hi.h.inj q' (.o k) b' k4 o1
   subst this
   obtain ⟨cs, _, g1, _⟩ := hIs i' _ k3
   exact absurd g1 (isRM_box (hrow m1))
  ·have := hi.h.inj (.o k) (.o k') b' o1 o2
   simp only [Pl.o.injEq] at this; subst this
   rw [snd_inj hr2 m1 m2]
 ·rcases callee3_own h1 with ⟨i, p', rfl, k1, _, k2⟩ | ⟨j, k, rfl, m1, _, o1⟩
  ·exact hi.h.size p' b' k2
  ·exact hi.h.size _ b' o1
 ·rcases callee3_own hp with ⟨i, p', rfl, k1, _, k2⟩ | ⟨j, k, rfl, m1, _, o1⟩
  ·obtain ⟨e, k, es, k3, _⟩ := hi.h.sep b' o h p' k2
   obtain ⟨cs, _, h1, _⟩ := hIs i p' k1
   rw [h1] at k3; simp at k3
  ·obtain ⟨e, z, es, k3, _⟩ := hi.h.sep b' o h _ o1
   exact absurd k3 (isRM_sh (hrow m1))
theorem ItemOK.ext {po : Nat → Prop} {E E' : En} {p : Pl} {it : It} (h : ItemOK E p it) (x : Ext po E E') (ho : it.only po) (hb : E'.blk p = E.blk p) (hv : ∀ id, p = .o id → E'.val id = E.val id)
  (hh : ∀ b, E.own p = some b → E'.w.heap[b]? = E.w.heap[b]?) : ItemOK E' p it := by
 cases it with
 | none => exact fun id e => by rw [hb, hv id e]; exact h id e
 | v t => exact (En.own_eq hb hv).trans h
 | box cs =>
   obtain ⟨h0, b, ty, us, h1, h2, h3, h4⟩ := h
   exact ⟨fun id e => by rw [hv id e]; exact h0 id e, b, ty, us, hb.trans h1, (hh b (by simp [En.own, h1])).trans h2, h3, CellsRel.ext x ho h4⟩
 | row e k es sh =>
   obtain ⟨h0, id, v, us, rfl, h1, h2, h3⟩ := h
   refine ⟨hb.trans h0, id, v, us, rfl, (hv id rfl).trans h1, ⟨h2.1, ?_⟩, RowRel.ext x ho h3⟩
   rcases h2.2 with hn | ⟨g, cap, cur, rfl, hg, hgg, rest⟩
   ·exact .inl hn
   ·exact .inr ⟨g, cap, cur, rfl, hg, (hh g (by simp [En.own, h0, h1, Value.ownBlock])).trans hgg, rest⟩
 | que e k es =>
   obtain ⟨h0, id, v, us, rfl, h1, h2, h3⟩ := h
   obtain ⟨h4, g, o, cap, cur, rfl, hgg, rest⟩ := h2
   exact ⟨hb.trans h0, id, _, us, rfl, (hv id rfl).trans h1, ⟨h4, g, o, cap, cur, rfl, (hh g (by simp [En.own, h0, h1, Value.ownBlock])).trans hgg, rest⟩, RowRel.ext x ho h3⟩
 | mp es =>
   obtain ⟨h0, b, l, clock, h1, h2, h3, h4⟩ := h
   exact ⟨fun id e => by rw [hv id e]; exact h0 id e, b, l, clock, hb.trans h1, (hh b (by simp [En.own, h1])).trans h2, h3.ext x.r, h4⟩
 | mpk es c pd s =>
   obtain ⟨id, b, l, clock, l', ty, v, rfl, h1, h2, h3, h4, h5, h6, h7, h8⟩ := h
   exact ⟨id, b, l, clock, l', ty, v, rfl, hb.trans h1, (hh b (by simp [En.own, h1])).trans h2, h3, KRel.ext x ho h4, h5, (hv id rfl).trans h6, h7, h8⟩
 | mpz es s =>
   obtain ⟨h0, h1, h2, h3, l', h4, h5⟩ := h
   exact ⟨(En.own_eq hb hv).trans h0, x.st _ _ h1, map_of_at (x.cell _ _ h1) h2, h3, l', h4, KRel.ext x ho h5⟩
 | mit m s left cur =>
   obtain ⟨h0, r, seen, h1, h2, h3⟩ := h
   exact ⟨fun id e => by rw [hv id e]; exact h0 id e, r, seen, hb.trans h1, (hh r (by simp [En.own, h1])).trans h2, h3⟩
theorem InvE.called3 {t : S} {a : Act} {E : En} (hi : InvE A t a E) {ν : List Pl} {rs : List (Nat × Nat)} {cxs cxs' : List It} {ro : List (Nat × It)} {b : Nat} (hν : ν.Nodup) (hνp : ∀ p ∈ ν, isPl p = true) (hI : passI3s t ν rs ν = some cxs)
  (hr1 : (rs.map (·.1)).Nodup) (hr2 : (rs.map (·.2)).Nodup) {ri : List (Nat × It)} (hrs : rsIn3 t ν rs rs = some ri)
  (hl : cxs'.length = ν.length) (hbox : ∀ i ∈ cxs', isBox i = true) (hobj : ∀ x ∈ ro, isObj x.2 = true) (hfree : ∀ x ∈ ro, t (.o (b + x.1)) = .none)
  (hon : ∀ p, p ∉ ν → (∀ k, p = .o k → k ∉ rs.map (·.2)) → (t p).only fun id => id ∉ rs.map (·.2))
  {r : TV} {u : Value} {E' : En} (hp : Post (E.callee3 ν rs) cxs' ro r u E') :
  ∃ E2 : En, E2.w = E'.w ∧ InvE A (over t (wx ν b ν cxs' ++ (wo ν b ro ++ wr rs))) a E2 ∧ RelV E2 (r.back ν b) u := by
 obtain ⟨hl0, hIs⟩ := passI3s_spec hI
 have hrow : ∀ {k}, k ∈ rs.map (·.2) → isRM (t (.o k)) := fun h => by
  obtain ⟨x, hx, rfl⟩ := List.mem_map.1 h
  exact rsIn3_mem hrs _ hx
 have hνb : ∀ {i : Nat} {p : Pl}, ν[i]? = some p → ∃ cs, t p = .box cs := fun h => by
  obtain ⟨cs, _, h1, _⟩ := hIs _ _ h; exact ⟨cs, h1⟩
 have hνs : ∀ {p : Pl}, p ∈ ν → ∀ k, p ≠ .s k := fun hp k e => by subst e; have := hνp _ hp; simp [isPl] at this
 have hνr : ∀ {k}, k ∈ rs.map (·.2) → Pl.o k ∉ ν := fun h hp => by
  obtain ⟨i, hi'⟩ := List.getElem?_of_mem hp
  obtain ⟨cs, g⟩ := hνb hi'
  exact isRM_box (hrow h) g
 let nw : Nat → Option Nat := fun k => if b ≤ k ∧ (k - b) ∈ ro.map (·.1) then some (k - b) else none
 have hnw : ∀ {k j}, nw k = some j ↔ k = b + j ∧ j ∈ ro.map (·.1) := fun {k j} => by
  simp only [nw]
  constructor
  ·intro h
   split at h
   ·rename_i h1; simp only [Option.some.injEq] at h; subst h; exact ⟨by omega, h1.2⟩
   ·simp at h
  ·rintro ⟨rfl, h⟩
   rw [if_pos ⟨by omega, by rw [show b + j - b = j by omega]; exact h⟩]
   simp
 have hnewfree : ∀ {k j}, nw k = some j → t (.o k) = .none := fun h => by
  obtain ⟨rfl, h1⟩ := hnw.1 h
  obtain ⟨x, hx, rfl⟩ := List.mem_map.1 h1
  exact hfree x hx
 have hnewE : ∀ {k j}, nw k = some j → E.blk (.o k) = none ∧ E.val k = none := fun {k j} h => by
  have := hi.h.item (.o k) (by simp)
  rw [hnewfree h] at this
  exact this k rfl
 have hnr : ∀ {k j}, nw k = some j → k ∉ rs.map (·.2) := fun h g => by
  exact isRM_none (hrow g) (hnewfree h)
 let E2 : En := { w := E'.w, St := E'.St, blk := fun p => match p with | .o k => (match nw k with | some j => E'.blk (.o j) | none => if k ∈ rs.map (·.2) then none else E.blk (.o k)) | p => E.blk p,
                  val := fun k => match nw k with | some j => E'.val j | none => if k ∈ rs.map (·.2) then none else E.val k }
 have hblk_old : ∀ {p : Pl}, (∀ k j, p = .o k → nw k ≠ some j) → (∀ k, p = .o k → k ∉ rs.map (·.2)) → E2.blk p = E.blk p := fun {p} h g => by
  cases p with
  | o k =>
    simp only [E2]
    cases hn : nw k with
    | none => simp only; rw [if_neg (g k rfl)]
    | some j => exact absurd hn (h k j rfl)
  | s k => rfl
  | x k => rfl
 have hval_old : ∀ {k : Nat}, (∀ j, nw k ≠ some j) → k ∉ rs.map (·.2) → E2.val k = E.val k := fun {k} h g => by
  simp only [E2]
  cases hn : nw k with
  | none => rw [if_neg g]
  | some j => exact absurd hn (h j)
 have hblk_new : ∀ {k j : Nat}, nw k = some j → E2.blk (.o k) = E'.blk (.o j) ∧ E2.val k = E'.val j := fun {k j} h => by simp only [E2, h, and_self]
 have hown_old : ∀ {p : Pl}, (∀ k j, p = .o k → nw k ≠ some j) → (∀ k, p = .o k → k ∉ rs.map (·.2)) → E2.own p = E.own p := fun {p} h g =>
  En.own_eq (hblk_old h g) (fun id e => hval_old (fun j => h id j e) (g id e))
 have hown_new : ∀ {k j : Nat}, nw k = some j → E2.own (.o k) = E'.own (.o j) := fun {k j} h => by
  obtain ⟨h1, h2⟩ := hblk_new h
  simp only [En.own, h1, h2]
 have hown_gone : ∀ {k}, k ∈ rs.map (·.2) → E2.own (.o k) = none := fun {k} h => by
  have hn : nw k = none := by
   cases hn : nw k with
   | none => rfl
   | some j => exact absurd h (hnr hn)
  simp only [En.own, E2, hn, if_pos h, Option.bind_none]
 have hcx : ∀ i, (E.callee3 ν rs).blk (.x i) = (ν[i]?).bind E.blk := fun i => rfl
 have hown2 : ∀ {j b'}, (E.callee3 ν rs).own (.o j) = some b' → ∃ k, k ∈ rs.map (·.2) ∧ E.own (.o k) = some b' := fun {j b'} h => by
  rcases callee3_own h with ⟨i, q, e, _⟩ | ⟨j', k, e, m, _, o⟩
  ·simp at e
  ·exact ⟨k, List.mem_map.2 ⟨_, m, rfl⟩, o⟩
 have hxblk : ∀ {i b'}, (E.callee3 ν rs).blk (.x i) = some b' → ∃ p, ν[i]? = some p ∧ E.blk p = some b' ∧ E.own p = some b' := fun {i b'} h => by
  rw [hcx] at h
  cases hp : ν[i]? with
  | none => simp [hp] at h
  | some p =>
    simp only [hp, Option.bind_some] at h
    exact ⟨p, rfl, h, by simp [En.own, h]⟩
 have hstold : ∀ {b' o}, E.St b' o → E'.w.heap[b']? = E.w.heap[b']? := fun {b' o} h => hp.fr.old b' (hi.h.stsz _ _ h) (fun i hx => by
  obtain ⟨p, h1, h2, h3⟩ := hxblk hx
  obtain ⟨cs, h4⟩ := hνb h1
  obtain ⟨e, k, es, h5, _⟩ := hi.h.sep _ _ h p h3
  rw [h4] at h5; simp at h5) (fun j hj => by
  obtain ⟨k, h1, h2⟩ := hown2 hj
  obtain ⟨e, z, es, h5, _⟩ := hi.h.sep _ _ h _ h2
  exact isRM_sh (hrow h1) h5)
 have x : Ext (fun id => id ∉ rs.map (·.2)) E E2 := by
  refine ⟨fun b' o h => hp.fr.st b' o h, fun b' o h => atW_of_block (hstold h), fun id b' hid h => ?_, fun i b' h => h, fun i b' h => h, fun id k c v hid h => ?_⟩
  ·rw [hblk_old]
   ·exact h
   ·rintro k j e hn
    simp only [Pl.o.injEq] at e; subst e
    rw [(hnewE hn).1] at h; simp at h
   ·intro k e; simp only [Pl.o.injEq] at e; subst e; exact hid
  ·refine ⟨c, v, ?_, Nat.le_refl _, fun _ => rfl⟩
   rw [hval_old _ hid]
   ·exact h
   ·intro j hn
    rw [(hnewE hn).2] at h; simp at h
 have hmem : ∀ {j : Nat}, (E'.blk (.o j) ≠ none ∨ E'.val j ≠ none) → j ∈ ro.map (·.1) := fun {j} h => by
  by_cases hj : j ∈ ro.map (·.1)
  ·exact hj
  ·have := hp.h.item (.o j) (by simp)
   simp only [rlook, lookI_mem hj] at this
   obtain ⟨h1, h2⟩ := this j rfl
   rcases h with h | h
   ·exact absurd h1 h
   ·exact absurd h2 h
 have hback : ∀ {v : TV} {u : Value}, RelV E' v u → RelV E2 (v.back ν b) u := fun {v u} h => by
  refine back_rel (E' := E') (E2 := E2) ⟨fun _ _ h => h, fun _ _ _ => rfl⟩ (fun i b' hb => ?_) (fun id b' hb => ?_) (fun id y hy => ?_) hp.h.frees h
  ·rw [hp.fr.xb] at hb
   obtain ⟨p, h1, h2, h3⟩ := hxblk hb
   have hg : ν.getD i (.s 0) = p := by simp [List.getD, h1]
   rw [hg, hblk_old]
   ·exact h2
   ·rintro k j rfl hn
    rw [(hnewE hn).1] at h2; simp at h2
   ·rintro k rfl hk
    exact hνr hk (List.mem_of_getElem? h1)
  ·have hj := hmem (j := id) (.inl (by rw [hb]; simp))
   rw [(hblk_new (hnw.2 ⟨rfl, hj⟩)).1]; exact hb
  ·have hj := hmem (j := id) (.inr (by rw [hy]; simp))
   rw [(hblk_new (hnw.2 ⟨rfl, hj⟩)).2]; exact hy
 have hnwn : ∀ {p : Pl}, (∀ k j, p = .o k → nw k ≠ some j) → ∀ j ∈ ro.map (·.1), p ≠ .o (b + j) := fun h j hj e => h _ j e (hnw.2 ⟨rfl, hj⟩)
 have hνnew : ∀ {p : Pl}, p ∈ ν → ∀ k j, p = .o k → nw k ≠ some j := fun {p} hpν k j e hn => by
  subst e
  obtain ⟨i, hi'⟩ := List.getElem?_of_mem hpν
  obtain ⟨cs, h⟩ := hνb hi'
  rw [hnewfree hn] at h; simp at h
 have hval2 : ∀ p, over t (wx ν b ν cxs' ++ (wo ν b ro ++ wr rs)) p = if p ∈ ν then over t (wx ν b ν cxs') p else over (over t (wr rs)) (wo ν b ro) p := fun p => by
  rw [over_app, over_app]
  split
  ·rename_i h
   obtain ⟨i, h1⟩ := List.getElem?_of_mem h
   have hil : i < cxs'.length := by rw [hl]; exact (List.getElem?_eq_some_iff.1 h1).1
   rw [wx_get hν hl h1 (List.getElem?_eq_getElem hil), wx_get hν hl h1 (List.getElem?_eq_getElem hil)]
  ·rename_i h
   rw [wx_other h]
 have hold : ∀ {p : Pl}, p ∉ ν → (∀ k j, p = .o k → nw k ≠ some j) → (∀ k, p = .o k → k ∉ rs.map (·.2)) → over t (wx ν b ν cxs' ++ (wo ν b ro ++ wr rs)) p = t p := fun h1 h2 h3 => by
  rw [hval2, if_neg h1, wo_other (hnwn h2), wr_other (fun k hk e => h3 k e hk)]
 have hgone : ∀ {k}, k ∈ rs.map (·.2) → over t (wx ν b ν cxs' ++ (wo ν b ro ++ wr rs)) (.o k) = .v .junk := fun {k} h => by
  rw [hval2, if_neg (hνr h), wo_other (hnwn (p := .o k) (fun k' j e hn => by simp only [Pl.o.injEq] at e; subst e; exact hnr hn h)), wr_get h]
 have hH : HInv E2 (over t (wx ν b ν cxs' ++ (wo ν b ro ++ wr rs))) := by
  refine ⟨fun p hps => ?_, fun k => hi.h.frees k, fun p q b' h1 h2 => ?_, fun p b' h1 => ?_, fun b' o h1 => hp.h.stsz b' o h1, fun b' o h1 p h2 => ?_, fun y hy => RepCells.ext x.r _ _ _ (hi.h.gl y hy)⟩
  ·by_cases hpν : p ∈ ν
   ·obtain ⟨i, h1⟩ := List.getElem?_of_mem hpν
    have hil : i < cxs'.length := by rw [hl]; exact (List.getElem?_eq_some_iff.1 h1).1
    rw [hval2, if_pos hpν, wx_get hν hl h1 (List.getElem?_eq_getElem hil)]
    have hb := hbox cxs'[i] (List.getElem_mem hil)
    have hit := hp.h.item (.x i) (by simp)
    have hr : rlook cxs' ro (.x i) = cxs'[i] := by simp [rlook, List.getD, hil]
    rw [hr] at hit
    cases hc : cxs'[i] with
    | box cs =>
      rw [hc] at hit
      obtain ⟨_, b', ty, us, h2, h3, h4, h5⟩ := hit
      rw [hp.fr.xb] at h2
      obtain ⟨p', g1, g2, g3⟩ := hxblk h2
      rw [h1] at g1; simp only [Option.some.injEq] at g1; subst g1
      refine ⟨fun id e => ?_, b', ty, us, ?_, h3, by rw [h4, backs_length], backCells hback h5⟩
      ·subst e
       rw [hval_old (fun j => hνnew hpν id j rfl) (fun h => hνr h hpν)]
       obtain ⟨cs0, g4⟩ := hνb h1
       have := hi.h.item (.o id) (by simp)
       rw [g4] at this
       exact this.1 id rfl
      ·rw [hblk_old (hνnew hpν) (fun k e hk => by subst e; exact hνr hk hpν)]; exact g2
    | none => rw [hc] at hb; simp [isBox] at hb
    | v _ => rw [hc] at hb; simp [isBox] at hb
    | row _ _ _ _ => rw [hc] at hb; simp [isBox] at hb
    | que _ _ _ => rw [hc] at hb; simp [isBox] at hb
    | mp _ => rw [hc] at hb; simp [isBox] at hb
    | mpk _ _ _ _ => rw [hc] at hb; simp [isBox] at hb
    | mit _ _ _ _ => rw [hc] at hb; simp [isBox] at hb
    | mpz _ _ => rw [hc] at hb; simp [isBox] at hb
   ·by_cases hn : ∃ k j, p = .o k ∧ nw k = some j
    ·obtain ⟨k, j, rfl, hn⟩ := hn
     obtain ⟨rfl, hj⟩ := hnw.1 hn
     rw [hval2, if_neg hpν, wo_get hj]
     have ho := lookI_obj hobj hj
     have hit := hp.h.item (.o j) (by simp)
     simp only [rlook] at hit
     obtain ⟨hb1, hv1⟩ := hblk_new hn
     cases hc : lookI ro j with
     | box cs =>
       rw [hc] at hit
       obtain ⟨h0, b', ty, us, h2, h3, h4, h5⟩ := hit
       exact ⟨fun id e => by simp only [Pl.o.injEq] at e; subst e; rw [hv1]; exact h0 j rfl, b', ty, us, hb1.trans h2, h3, by rw [h4, backs_length], backCells hback h5⟩
     | row e k' es sh =>
       rw [hc] at hit
       obtain ⟨h0, id, v, us, e1, h2, h3, h4⟩ := hit
       simp only [Pl.o.injEq] at e1; subst e1
       exact ⟨hb1.trans h0, b + j, v, us, rfl, by rw [hv1, List.length_map]; exact h2, by rw [List.length_map]; exact h3, backRow hback h4⟩
     | mp es =>
       rw [hc] at hit
       obtain ⟨h0, b', l, clock, h2, h3, h4, h5⟩ := hit
       exact ⟨fun id e => by simp only [Pl.o.injEq] at e; subst e; rw [hv1]; exact h0 j rfl, b', l, clock, hb1.trans h2, h3, MapRel.ext (E := E') (E' := E2) ⟨fun _ _ h => h, fun _ _ _ => rfl⟩ h4, h5⟩
     | mpk es c pd s =>
       rw [hc] at hit
       obtain ⟨id, b', l, clock, l', ty, v, e1, h2, h3, h4, h5, h6, h7, h8, h9⟩ := hit
       simp only [Pl.o.injEq] at e1; subst e1
       exact ⟨b + j, b', l, clock, l', ty, v, rfl, hb1.trans h2, h3, h4, backK hback h5, h6, by rw [hv1]; exact h7, h8, h9⟩
     | mit _ _ _ _ => rw [hc] at ho; simp [isObj] at ho
     | mpz _ _ => rw [hc] at ho; simp [isObj] at ho
     | que _ _ _ => rw [hc] at ho; simp [isObj] at ho
     | none => rw [hc] at ho; simp [isObj] at ho
     | v _ => rw [hc] at ho; simp [isObj] at ho
    ·have hn' : ∀ k j, p = .o k → nw k ≠ some j := fun k j e h => hn ⟨k, j, e, h⟩
     by_cases hg : ∃ k, p = .o k ∧ k ∈ rs.map (·.2)
     ·obtain ⟨k, rfl, hk⟩ := hg
      rw [hgone hk]
      exact hown_gone hk
     ·have hg' : ∀ k, p = .o k → k ∉ rs.map (·.2) := fun k e h => hg ⟨k, e, h⟩
      rw [hold hpν hn' hg']
      refine (hi.h.item p hps).ext x (hon p hpν hg') (hblk_old hn' hg') (fun id e => hval_old (fun j => hn' id j e) (hg' id e)) (fun b' hb' => ?_)
      refine hp.fr.old b' (hi.h.size p b' hb') (fun i hx => ?_) (fun j hj => ?_)
      ·obtain ⟨q, g1, g2, g3⟩ := hxblk hx
       have := hi.h.inj p q b' hb' g3
       subst this
       exact hpν (List.mem_of_getElem? g1)
      ·obtain ⟨k, g1, g2⟩ := hown2 hj
       exact hg' k (hi.h.inj p _ b' hb' g2) g1
  ·have hgo : ∀ {p b'}, E2.own p = some b' → ∀ k, p = .o k → k ∉ rs.map (·.2) := fun {p b'} h k e g => by
    subst e; rw [hown_gone g] at h; simp at h
   have hcross : ∀ {j q}, E'.own (.o j) = some b' → E.own q = some b' → (∀ k, q = .o k → k ∉ rs.map (·.2)) → False := fun {j q} h1 h2 h3 => by
    have g2 := hi.h.size q b' h2
    rcases hp.fr.new j b' h1 with g1 | ⟨i, g1⟩
    ·simp only [En.callee3] at g1; omega
    ·obtain ⟨k, g3, g4⟩ := hown2 g1
     exact h3 k (hi.h.inj q _ b' h2 g4) g3
   by_cases n1 : ∃ k j, p = .o k ∧ nw k = some j <;> by_cases n2 : ∃ k j, q = .o k ∧ nw k = some j
   ·obtain ⟨k, j, rfl, hn⟩ := n1
    obtain ⟨k', j', rfl, hn'⟩ := n2
    rw [hown_new hn] at h1; rw [hown_new hn'] at h2
    have := hp.h.inj _ _ b' h1 h2
    simp only [Pl.o.injEq] at this; subst this
    rw [(hnw.1 hn).1, (hnw.1 hn').1]
   ·obtain ⟨k, j, rfl, hn⟩ := n1
    have hq := hgo h2
    rw [hown_new hn] at h1
    rw [hown_old (fun k j e h => n2 ⟨k, j, e, h⟩) hq] at h2
    exact (hcross h1 h2 hq).elim
   ·obtain ⟨k, j, rfl, hn⟩ := n2
    have hq := hgo h1
    rw [hown_new hn] at h2
    rw [hown_old (fun k j e h => n1 ⟨k, j, e, h⟩) hq] at h1
    exact (hcross h2 h1 hq).elim
   ·have hq1 := hgo h1
    have hq2 := hgo h2
    rw [hown_old (fun k j e h => n1 ⟨k, j, e, h⟩) hq1] at h1
    rw [hown_old (fun k j e h => n2 ⟨k, j, e, h⟩) hq2] at h2
    exact hi.h.inj p q b' h1 h2
  ·by_cases n1 : ∃ k j, p = .o k ∧ nw k = some j
   ·obtain ⟨k, j, rfl, hn⟩ := n1
    rw [hown_new hn] at h1
    exact hp.h.size _ b' h1
   ·by_cases hg : ∃ k, p = .o k ∧ k ∈ rs.map (·.2)
    ·obtain ⟨k, rfl, hk⟩ := hg
     rw [hown_gone hk] at h1; simp at h1
    ·rw [hown_old (fun k j e h => n1 ⟨k, j, e, h⟩) (fun k e h => hg ⟨k, e, h⟩)] at h1
     exact Nat.lt_of_lt_of_le (hi.h.size p b' h1) hp.fr.size
  ·by_cases n1 : ∃ k j, p = .o k ∧ nw k = some j
   ·obtain ⟨k, j, rfl, hn⟩ := n1
    rw [hown_new hn] at h2
    obtain ⟨e, k', es, g1, g2⟩ := hp.h.sep b' o h1 _ h2
    obtain ⟨rfl, hj⟩ := hnw.1 hn
    have hpν : Pl.o (b + j) ∉ ν := fun h => hνnew h _ j rfl hn
    refine ⟨e, k', es.map (TV.backs ν b), ?_, by simpa using g2⟩
    rw [hval2, if_neg hpν, wo_get hj]
    simp only [rlook] at g1
    rw [g1]; rfl
   ·have n1' : ∀ k j, p = .o k → nw k ≠ some j := fun k j e h => n1 ⟨k, j, e, h⟩
    by_cases hg : ∃ k, p = .o k ∧ k ∈ rs.map (·.2)
    ·obtain ⟨k, rfl, hk⟩ := hg
     rw [hown_gone hk] at h2; simp at h2
    ·have hg' : ∀ k, p = .o k → k ∉ rs.map (·.2) := fun k e h => hg ⟨k, e, h⟩
     rw [hown_old n1' hg'] at h2
     have hsz := hi.h.size p b' h2
     rcases hp.fr.newst b' o h1 with g1 | g1 | ⟨i, g1⟩
     ·obtain ⟨e, k, es, g2, g3⟩ := hi.h.sep b' o g1 p h2
      refine ⟨e, k, es, ?_, g3⟩
      rw [hold _ n1' hg', g2]
      intro hpν
      obtain ⟨i, hi'⟩ := List.getElem?_of_mem hpν
      obtain ⟨cs, h⟩ := hνb hi'
      rw [h] at g2; simp at g2
     ·simp only [En.callee3] at g1; omega
     ·obtain ⟨k, g3, g4⟩ := hown2 g1
      exact absurd g3 (hg' k (hi.h.inj p _ b' h2 g4))
 have hsl : ∀ k, over t (wx ν b ν cxs' ++ (wo ν b ro ++ wr rs)) (.s k) = t (.s k) := fun k =>
  hold (fun h => hνs h k rfl) (fun _ _ e => by simp at e) (fun _ e => by simp at e)
 have hE0 : ∀ {j b'}, (E.callee3 ν rs).own (.o j) = some b' → A.E0.w.heap.size ≤ b' ∨ ∃ i, A.E0.own (.o i) = some b' := fun {j b'} h => by
  obtain ⟨k, _, g⟩ := hown2 h
  exact hi.fr.new k b' g
 refine ⟨E2, rfl, ⟨hH, (hi.fr.next2 hp.fr.os hp.fr.tape hp.fr.output hp.fr.size (fun b' h1 h2 h3 => ?_) (fun i => rfl) (fun id b' h => ?_) (fun b' o h => hp.fr.st b' o h) (fun b' o h => ?_)), fun k tv hk => ?_, hi.defers, hi.size⟩, hback hp.rel⟩
 ·refine hp.fr.old b' (Nat.lt_of_lt_of_le h1 hi.fr.size) (fun i hx => ?_) (fun j hj => ?_)
  ·obtain ⟨q, g1, g2, g3⟩ := hxblk hx
   cases q with
   | s k => rw [hi.h.frees k] at g2; simp at g2
   | x j => exact h2 j ((hi.fr.xb j).symm.trans g2)
   | o k => exact (hi.fr.new k b' g3).elim (fun h => by omega) (fun ⟨j, h⟩ => h3 j h)
  ·exact (hE0 hj).elim (fun h => by omega) (fun ⟨j, h⟩ => h3 j h)
 ·cases hn : nw id with
  | some j =>
    rw [hown_new hn] at h
    rcases hp.fr.new j b' h with g | ⟨i, g⟩
    ·exact .inr g
    ·obtain ⟨k, _, g2⟩ := hown2 g
     exact .inl ⟨k, g2⟩
  | none =>
    by_cases hk : id ∈ rs.map (·.2)
    ·rw [hown_gone hk] at h; simp at h
    ·rw [hown_old (fun k j e h => by simp only [Pl.o.injEq] at e; subst e; rw [hn] at h; simp at h) (fun k e => by simp only [Pl.o.injEq] at e; subst e; exact hk)] at h
     exact .inl ⟨id, h⟩
 ·rcases hp.fr.newst b' o h with g | g | ⟨i, g⟩
  ·exact .inl g
  ·exact .inr (.inl (Nat.le_trans hi.fr.size g))
  ·exact .inr (hE0 g)
 ·rw [hsl] at hk
  obtain ⟨u', h1, h2⟩ := hi.sl k tv hk
  refine ⟨u', h1, RelV.ext x tv u' ?_ h2⟩
  have := hon (.s k) (fun h => hνs h k rfl) (fun _ e => by simp at e)
  rwa [hk] at this
variable {ops : Array Oper}
def OnlyL (ν : List Pl) (gone : List Nat) : List (Pl × It) → Prop
 | [] => True
 | (p, i) :: l => (p ∈ ν ∨ (∃ k, k ∈ gone ∧ p = .o k) ∨ i.only fun id => id ∉ gone) ∧ OnlyL ν gone l
theorem OnlyL.spec {ν : List Pl} {gone : List Nat} : ∀ {l : List (Pl × It)}, OnlyL ν gone l → ∀ p, p ∉ ν → (∀ k, p = .o k → k ∉ gone) → (look l p).only fun id => id ∉ gone
 | [], _, p, _, _ => by simp only [look]; trivial
 | (q, i) :: l, h, p, h1, h2 => by
   simp only [OnlyL] at h
   simp only [look]
   split
   ·rename_i e
    subst e
    rcases h.1 with h3 | ⟨k, h3, e⟩ | h3
    ·exact absurd h3 h1
    ·exact absurd h3 (h2 k e)
    ·exact h3
   ·exact OnlyL.spec h.2 p h1 h2
theorem SumN.call3 {t : S} {i : Nat} {o : Oper} {gp : List Pl} {fo : Operand} {xs : List Operand} {tys : Array TypeId} {f : FuncId} {caps cargs : List TV} {cxs cxs' : List It} {ri : List (Nat × It)} {r : TV} {ro : List (Nat × It)}
  (ho : ops[i]? = some o) (hg : gv ops t o = some (gp, true)) (hd : dstOK A.N o = true) (hop : o.op = .call { callee := .value fo, args := xs.toArray, argTypes := tys }) (hf : ev t fo = .clo f caps) (hfn : fnOK P f = true)
  (C : Contract2 P f cargs cxs ri r cxs' ro) (ν : List Pl) (rs : List (Nat × Nat)) (b : Nat) (hν : ν.Nodup) (hνp : ∀ p ∈ ν, isPl p = true) (hp : TV.pass3s ν rs (xs.map (ev t) ++ caps) = some cargs) (hI : passI3s t ν rs ν = some cxs)
  (hr1 : (rs.map (·.1)).Nodup) (hr2 : (rs.map (·.2)).Nodup) (hri : rsIn3 t ν rs rs = some ri)
  (hl : cxs'.length = ν.length) (hbox : ∀ i ∈ cxs', isBox i = true) (hobj : ∀ x ∈ ro, isObj x.2 = true) (hfree : ∀ x ∈ ro, t (.o (b + x.1)) = .none)
  (hon : ∀ p, p ∉ ν → (∀ k, p = .o k → k ∉ rs.map (·.2)) → (t p).only fun id => id ∉ rs.map (·.2)) :
  SumN P A ops i t fun _ : Unit => dstW o (r.back ν b) (wx ν b ν cxs' ++ (wo ν b ro ++ wr rs)) := fun a w ⟨E, hw, hi⟩ K Q hK => by
 subst hw
 have hwant := gv_wanted hg (fun _ _ => rfl) hi
 have hfr := ev_rel hi fo
 rw [hf] at hfr
 simp only [RelV] at hfr
 obtain ⟨ucap, hufo, hucap⟩ := hfr
 have hxr := evs_rel hi xs
 have happ : ∀ {ts ts' : List TV} {us us' : List Value}, RelVs E ts us → RelVs E ts' us' → RelVs E (ts ++ ts') (us ++ us') := by
  intro ts
  induction ts with
  | nil => intro ts' us us' h g; simp only [RelVs] at h; subst h; simpa using g
  | cons v ts ih =>
    intro ts' us us' h g
    simp only [RelVs] at h
    obtain ⟨u, us0, rfl, h1, h2⟩ := h
    simp only [List.cons_append, RelVs]
    exact ⟨u, us0 ++ us', rfl, h1, ih h2 g⟩
 have hargs := happ hxr hucap
 have hcargs : RelVs (E.callee3 ν rs) cargs (xs.map a.eval ++ ucap.toList) := pass3s_rel hr1 hp hargs
 have hH0 : HInv (E.callee3 ν rs) (rlook cxs ri) := HInv.callee3 hi hν hI hνp hr1 hr2 hri
 have hcall := C (E.callee3 ν rs) _ hH0 hcargs
 have hwc : (E.callee3 ν rs).w = E.w := rfl
 rw [hwc] at hcall
 unfold wpOp
 simp only [ho, hwant, if_true]
 refine .inl ?_
 unfold Oper.wp
 have hrun : (execOp a.eval o).run P E.w = .ok (.enter f (xs.map a.eval ++ ucap.toList).toArray) E.w := by
  have harr : (List.map a.eval xs ++ ucap.toList).toArray = (List.map a.eval xs).toArray ++ ucap := by simp
  simp only [execOp, hop, resolve, hufo, Deferred.ofValue, invoke, Sem.run_bind, Sem.run_pure, Result.andThen_ok, List.map_toArray, Array.empty_append, run_callFunc hfn, harr]
 rw [hrun]
 simp only [Oper.upon]
 refine hcall.mono fun e w' ⟨u, E', he, hw', hpost⟩ => ?_
 subst he
 obtain ⟨E2, hw2, hi2, hr2'⟩ := hi.called3 hν hνp hI hr1 hr2 hri hl hbox hobj hfree hon hpost
 refine hK () _ _ ⟨E2, hw2.trans hw', InvE.dst ?_ hd hr2'⟩
 exact hi2
def callW3 (P : Program) (N : Nat) (l : List (Pl × It)) (o : Oper) (f : FuncId) (cargs : List TV) (cxs : List It) (ri : List (Nat × It)) (r : TV) (cxs' : List It) (ro : List (Nat × It)) (ν : List Pl) (rs : List (Nat × Nat)) (b : Nat) (gp : List Pl) (g : Bool) : Option (Prop × List Pl × List (Pl × It)) :=
 match o.op with
 | .call { callee := .value fo, args := xs, argTypes := _ } =>
   match ev (look l) fo with
   | .clo f' caps =>
     match passI3s (look l) ν rs ν, TV.pass3s ν rs (xs.toList.map (ev (look l)) ++ caps), rsIn3 (look l) ν rs rs with
     | some c0, some a0, some r0 =>
       some (g = true ∧ dstOK N o = true ∧ f' = f ∧ fnOK P f = true ∧ ν.Nodup ∧ (∀ p ∈ ν, isPl p = true) ∧ a0 = cargs ∧ c0 = cxs ∧ (rs.map (·.1)).Nodup ∧ (rs.map (·.2)).Nodup ∧ r0 = ri ∧
        cxs'.length = ν.length ∧ (∀ x ∈ cxs', isBox x = true) ∧ (∀ x ∈ ro, isObj x.2 = true) ∧ (∀ x ∈ ro, look l (.o (b + x.1)) = .none) ∧ OnlyL ν (rs.map (·.2)) l,
        gp ++ (pl fo ++ (xs.toList.flatMap pl ++ (ν ++ ((rs.map fun x => .o x.2) ++ ro.map fun x => .o (b + x.1))))),
        dstW o (r.back ν b) (wx ν b ν cxs' ++ (wo ν b ro ++ wr rs)))
     | _, _, _ => none
   | _ => none
 | _ => none
def callO3 (P : Program) (N : Nat) (l : List (Pl × It)) (ops : Array Oper) (f : FuncId) (cargs : List TV) (cxs : List It) (ri : List (Nat × It)) (r : TV) (cxs' : List It) (ro : List (Nat × It)) (ν : List Pl) (rs : List (Nat × Nat)) (b : Nat) : Option Oper → Option (Prop × List Pl × List (Pl × It))
 | some o => match gv ops (look l) o with
   | some (gp, g) => callW3 P N l o f cargs cxs ri r cxs' ro ν rs b gp g
   | none => none
 | none => none
theorem ANon.of3 {i : Nat} {l : List (Pl × It)} {k : List Pl → List (Pl × It) → Prop} {g : Tg k} {f : FuncId} {cargs : List TV} {cxs cxs' : List It} {ri : List (Nat × It)} {r : TV} {ro : List (Nat × It)} (C : Contract2 P f cargs cxs ri r cxs' ro) (ν : List Pl) (rs : List (Nat × Nat)) (b : Nat)
  (h : AGo k g (callO3 P A.N l ops f cargs cxs ri r cxs' ro ν rs b ops[i]?)) : ANon P A ops i (look l) k g := by
 unfold AGo at h
 split at h
 ·rename_i D rp W hc
  obtain ⟨h1, h2⟩ := h
  refine ⟨Unit, fun _ => rp, fun _ => W, ?_, fun _ => h2⟩
  unfold callO3 at hc
  split at hc
  ·rename_i o ho
   split at hc
   ·rename_i gp g0 hg
    unfold callW3 at hc
    split at hc
    ·rename_i fo xs tys hop
     split at hc
     ·rename_i f' caps hf
      split at hc
      ·rename_i c0 a0 r0 hI hp hri
       simp only [Option.some.injEq, Prod.mk.injEq] at hc
       obtain ⟨rfl, rfl, rfl⟩ := hc
       obtain ⟨rfl, q1, rfl, q2, q3, q4, rfl, rfl, q5, q6, rfl, q8, q9, q10, q11, q12⟩ := h1
       exact SumN.call3 (xs := xs.toList) ho hg q1 (by simpa using hop) hf q2 C ν rs b q3 q4 hp hI q5 q6 hri q8 q9 q10 q11 q12.spec
      ·simp at hc
     ·simp at hc
    ·simp at hc
   ·simp at hc
  ·simp at hc
 ·exact h.elim
theorem pass3s_map (ν : List Pl) (rs : List (Nat × Nat)) : ∀ l : List D, TV.pass3s ν rs (l.map .d) = some (l.map .d)
 | [] => rfl
 | x :: l => by simp [TV.pass3s, TV.pass3, pass3s_map ν rs l]
theorem passEs3_dd (ν : List Pl) (rs : List (Nat × Nat)) : ∀ l : List (List D), passEs3 ν rs (dd l) = some (dd l)
 | [] => rfl
 | x :: l => by
   have := passEs3_dd ν rs l
   simp only [dd] at this
   simp only [dd, List.map_cons, passEs3, pass3s_map, this]
theorem passEs3_app (ν : List Pl) (rs : List (Nat × Nat)) : ∀ a b : List (List TV), passEs3 ν rs (a ++ b) = match passEs3 ν rs a, passEs3 ν rs b with
  | some x, some y => some (x ++ y)
  | _, _ => none
 | [], b => by cases h : passEs3 ν rs b <;> simp [passEs3, h]
 | e :: a, b => by
   simp only [List.cons_append, passEs3, passEs3_app ν rs a b]
   cases TV.pass3s ν rs e <;> cases passEs3 ν rs a <;> cases passEs3 ν rs b <;> rfl
theorem passI3_box (ν : List Pl) (rs : List (Nat × Nat)) (cs : List TV) : passI3 ν rs (.box cs) = match TV.pass3s ν rs cs with | some cs => some (.box cs) | none => none := rfl
theorem passK3_nil (ν : List Pl) (rs : List (Nat × Nat)) : passK3 ν rs [] = some [] := rfl
theorem passK3_map {α : Type} (ν : List Pl) (rs : List (Nat × Nat)) (f : α → List Int) (g : α → D) : ∀ l : List α, passK3 ν rs (l.map fun x => (f x, TV.d (g x))) = some (l.map fun x => (f x, TV.d (g x)))
 | [] => rfl
 | x :: l => by simp [passK3, TV.pass3, passK3_map ν rs f g l]
theorem isObj_mpk (es : List (List Int × TV)) (c : Nat) (pd : Option (List Int)) (s : Option Snap) : isObj (.mpk es c pd s) = true := rfl
theorem backI_mpk (ν : List Pl) (b : Nat) (es : List (List Int × TV)) (c : Nat) (pd : Option (List Int)) (s : Option Snap) : backI ν b (.mpk es c pd s) = .mpk (es.map fun x => (x.1, x.2.back ν b)) c pd s := rfl
theorem renI_mpk (a b : Nat) (es : List (List Int × TV)) (c : Nat) (pd : Option (List Int)) (s : Option Snap) : renI a b (.mpk es c pd s) = .mpk (es.map fun x => (x.1, x.2.ren a b)) c pd s := rfl
attribute [simp] isObj_mpk backI_mpk renI_mpk callO3 callW3 TV.pass3 TV.pass3s passI3s passI3_box passR3 passEs3 passEs3_dd passEs3_app rsIn3 OnlyL passK3_nil passK3_map
end
end Go.Tr
