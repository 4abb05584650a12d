/-
  Laws of the layer between the model and plain data (states, operations, calls, loops); none has a condition beyond those that stand in its own statement.
-/
import Derived.Test.YtkhneohilohhiaaT9
set_option linter.unusedSimpArgs false
namespace Go.Tr
open Go

section
variable {P : Program} {A : Actv}

/-! ### filling cells -/
theorem fold_put : ∀ (vs : List Value) (n off : Nat) (cells : Array Value), off + n + vs.length ≤ cells.size →
    ((vs.zipIdx n).foldl (fun cs (x : Value × Nat) => cs.setIfInBounds (off + x.2) x.1) cells).toList = cells.toList.take (off + n) ++ vs ++ cells.toList.drop (off + n + vs.length)
  | [], n, off, cells, _ => by simp
  | v :: vs, n, off, cells, h => by
    simp only [List.length_cons] at h
    rw [List.zipIdx_cons, List.foldl_cons, fold_put vs (n + 1) off (cells.setIfInBounds (off + n) v) (by simp; omega)]
    apply List.ext_getElem?
    intro j
    rw [get_put (cur := (cells.setIfInBounds (off + n) v).toList) (q := off + (n + 1)) (by simp; omega), get_put (cur := cells.toList) (vs := v :: vs) (q := off + n) (by simp; omega)]
    have hs : ∀ j : Nat, (cells.setIfInBounds (off + n) v).toList[j]? = if j = off + n then some v else cells.toList[j]? := fun j => by
      rw [Array.toList_setIfInBounds, listSet_get (by simp; omega)]
    by_cases h1 : j < off + n
    · rw [if_pos (by omega), if_pos h1, hs, if_neg (by omega)]
    · by_cases h2 : j = off + n
      · subst h2
        rw [if_pos (by omega), hs, if_pos rfl, if_neg h1, if_pos (by simp)]
        simp
      · rw [if_neg (by omega), if_neg h1]
        by_cases h3 : j < off + n + (vs.length + 1)
        · rw [if_pos (by omega), if_pos (by simp; omega), show j - (off + n) = (j - (off + (n + 1))) + 1 by omega]
          simp
        · rw [if_neg (by omega), if_neg (by simp; omega), hs, if_neg h2]

def fillT (place : Nat → Option (Nat × Nat)) (cells : List TV) : List (Nat × TV) → Option (List TV)
  | [] => some cells
  | (i, v) :: rest =>
    match place i with
    | none => none
    | some (off, size) => if v.cells.length ≠ size ∨ cells.length < off + v.cells.length then none else fillT place (setAt cells off v.cells) rest

theorem TV.one_cells {E : En} {v : TV} {u : Value} (hr : RelV E v u) (h1 : ∀ c ∈ v.cells, c.one = true) : RelVs E v.cells u.cells.toList := by
  cases v with
  | agg vs =>
    simp only [RelV] at hr
    obtain ⟨us, rfl, h⟩ := hr
    simpa [TV.cells, Value.cells] using h
  | _ =>
    have h2 := cells_rel hr h1
    refine RelVs.of_get (by simpa using h2.1) fun i t u' ht hu => ?_
    obtain ⟨u'', h3, _, h4⟩ := h2.2.get ht
    rw [Nat.zero_add, hu] at h3
    simp only [Option.some.injEq] at h3
    rw [h3]; exact h4

theorem RelVs.setAt {E : En} {cs vs : List TV} {us ws : List Value} (h : RelVs E cs us) (g : RelVs E vs ws) {off : Nat} (hl : off + vs.length ≤ cs.length) :
    RelVs E (setAt cs off vs) (us.take off ++ ws ++ us.drop (off + ws.length)) := by
  have h1 := h.length
  have h2 := g.length
  refine RelVs.of_get ?_ fun i t u ht hu => ?_
  · rw [setAt_length hl]; simp; omega
  · rw [setAt_get hl] at ht
    rw [get_put (by omega)] at hu
    by_cases h3 : i < off
    · rw [if_pos h3] at ht hu
      obtain ⟨u', h4, h5⟩ := h.get ht
      rw [hu] at h4; simp only [Option.some.injEq] at h4; rw [h4]; exact h5
    · rw [if_neg h3] at ht hu
      by_cases h4 : i < off + vs.length
      · rw [if_pos h4] at ht
        rw [if_pos (by omega)] at hu
        obtain ⟨u', h4, h5⟩ := g.get ht
        rw [hu] at h4; simp only [Option.some.injEq] at h4; rw [h4]; exact h5
      · rw [if_neg h4] at ht
        rw [if_neg (by omega)] at hu
        obtain ⟨u', h4, h5⟩ := h.get ht
        rw [hu] at h4; simp only [Option.some.injEq] at h4; rw [h4]; exact h5

theorem fill_rel {E : En} {place : Nat → Option (Nat × Nat)} : ∀ {ps : List (Nat × TV)} {qs : List (Nat × Value)} {cells r : List TV} {us : Array Value},
    fillT place cells ps = some r → (∀ p ∈ ps, ∀ c ∈ p.2.cells, c.one = true) → RelVs E cells us.toList → ps.length = qs.length →
    (∀ (i : Nat) (p : Nat × TV) (q : Nat × Value), ps[i]? = some p → qs[i]? = some q → p.1 = q.1 ∧ RelV E p.2 q.2) →
    ∃ ru, Instr.fill place us qs = some ru ∧ RelVs E r ru.toList
  | [], [], cells, r, us, h, _, hr, _, _ => by
    simp only [fillT, Option.some.injEq] at h
    subst h
    exact ⟨us, rfl, hr⟩
  | [], _ :: _, _, _, _, _, _, _, hl, _ => by simp at hl
  | _ :: _, [], _, _, _, _, _, _, hl, _ => by simp at hl
  | (i, v) :: ps, (i', u) :: qs, cells, r, us, h, h1, hr, hl, hp => by
    obtain ⟨hii, hv⟩ := hp 0 (i, v) (i', u) rfl rfl
    simp only at hii hv
    subst hii
    simp only [fillT] at h
    cases hpl : place i with
    | none => simp [hpl] at h
    | some os =>
      obtain ⟨off, size⟩ := os
      simp only [hpl] at h
      split at h
      · simp at h
      · rename_i hc
        simp only [not_or, Decidable.not_not, Nat.not_lt] at hc
        have hone : ∀ c ∈ v.cells, c.one = true := h1 (i, v) (by simp)
        have hcr := TV.one_cells hv hone
        have hcs : u.cells.size = v.cells.length := by simpa using hcr.length
        have hus : us.size = cells.length := by simpa using hr.length
        have hput := fold_put u.cells.toList 0 off us (by simp; omega)
        simp only [Nat.add_zero, Array.length_toList] at hput
        have hset := hr.setAt hcr hc.2
        simp only [Array.length_toList] at hset
        rw [← hput] at hset
        obtain ⟨ru, h2, h3⟩ := fill_rel (qs := qs) h (fun p hp => h1 p (by simp [hp])) hset (by simpa using hl) (fun j p q hj hq => hp (j + 1) p q (by simpa using hj) (by simpa using hq))
        refine ⟨ru, ?_, h3⟩
        have hfold : u.cells.zipIdx.foldl (fun cs x => cs.setIfInBounds (off + x.2) x.1) us = (u.cells.toList.zipIdx).foldl (fun cs (x : Value × Nat) => cs.setIfInBounds (off + x.2) x.1) us := by
          rw [← Array.foldl_toList, Array.toList_zipIdx]
        have hn : ¬ (us.size < off + u.cells.size) := by omega
        simp only [Instr.fill, hpl, hcs, hc.1, ne_eq, not_true_eq_false, decide_false, Bool.false_or, gt_iff_lt, decide_eq_true_eq]
        rw [if_neg (by omega)]
        rw [← h2]
        congr 1

/-- The places of a struct's fields. -/
def stF (P : Program) (t : TypeId) : Option (List (Nat × Nat)) :=
  match P.underlying t with
  | some (.struct fs) => fs.toList.mapM fun f => (szO P f.type).map fun z => (f.offset, z)
  | _ => none

theorem mapM_places {w : World} : ∀ (fs : List Field) (r : List (Nat × Nat)), fs.mapM (fun f => (szO P f.type).map fun z => (f.offset, z)) = some r →
    (fs.mapM (fun f => do pure (f.offset, ← sizeOf f.type) : Field → Sem (Nat × Nat))).run P w = .ok r w
  | [], r, h => by simp at h; subst h; simp
  | f :: fs, r, h => by
    simp only [List.mapM_cons, bind, Option.bind_eq_some_iff, Option.map_eq_some_iff, pure, Option.some.injEq] at h
    obtain ⟨_, ⟨z, hz, rfl⟩, r', h2, rfl⟩ := h
    have ih := mapM_places (w := w) fs r' h2
    unfold szO at hz
    cases hi : P.info? f.type with
    | none => simp [hi] at hz
    | some inf =>
      simp only [hi, Option.map_some, Option.some.injEq] at hz
      simp only [List.mapM_cons, sizeOf, typeInfo, Sem.run_bind, run_program, Result.andThen_ok, hi, Sem.run_pure, hz]
      simp only [sizeOf, typeInfo] at ih
      rw [ih]
      simp

theorem parts_rel {t : S} {a : Act} {E : En} (hi : InvE A t a E) (ps : List (Nat × Operand)) : ∀ (i : Nat) (p : Nat × TV) (q : Nat × Value), (ps.map fun x => (x.1, ev t x.2))[i]? = some p → (ps.map fun x => (x.1, a.eval x.2))[i]? = some q →
    p.1 = q.1 ∧ RelV E p.2 q.2 := fun i p q hp hq => by
  simp only [List.getElem?_map, Option.map_eq_some_iff] at hp hq
  obtain ⟨x, h1, rfl⟩ := hp
  obtain ⟨y, h2, rfl⟩ := hq
  rw [h1] at h2; simp only [Option.some.injEq] at h2; subst h2
  exact ⟨rfl, ev_rel hi _⟩

theorem parts_eq {t t' : S} : ∀ {ps : List (Nat × Operand)}, (∀ p ∈ ps.flatMap (fun x => pl x.2), t' p = t p) → (ps.map fun x => (x.1, ev t' x.2)) = ps.map fun x => (x.1, ev t x.2)
  | [], _ => rfl
  | x :: xs, h => by
    simp only [List.map_cons]
    rw [ev_eq (fun p hp => h p (by simp [hp])), parts_eq (fun p hp => h p (by simp only [List.flatMap_cons]; exact List.mem_append_right _ hp))]

/-- T{..}, T a struct -/
theorem eff_build {o : Oper} {t : S} {ty : TypeId} {ps : List (Nat × Operand)} {fs : List (Nat × Nat)} {z : Value} {r : List TV} (ho : o.op = .build ty ps.toArray) (hf : stF P ty = some fs) (hz : zrO P ty = some z)
    (hr : fillT (fun i => fs[i]?) ((zcells z).map ofCell) (ps.map fun x => (x.1, ev t x.2)) = some r) :
    EffOK P A o t ⟨∀ p ∈ ps.map (fun x => (x.1, ev t x.2)), ∀ c ∈ p.2.cells, c.one = true, ps.flatMap (fun x => pl x.2), [], .agg r⟩ :=
  .pure fun hC t' hr' a E hi => by
    have hpe := parts_eq hr'
    have hp := parts_rel hi ps
    rw [hpe] at hp
    have hz0 : RelVs E ((zcells z).map ofCell) z.cells.toList := by rw [zcells_eq]; exact ofCells_rel E _
    obtain ⟨ru, h1, h2⟩ := fill_rel (qs := ps.map fun x => (x.1, a.eval x.2)) hr hC hz0 (by simp) hp
    refine ⟨.agg ru, ?_, by simp only [RelV]; exact ⟨ru, rfl, h2⟩⟩
    unfold stF at hf
    split at hf
    · rename_i fs' hu
      have hm := mapM_places (P := P) (w := E.w) _ _ hf
      have hm' : (fs'.mapM (fun f => do pure (f.offset, ← sizeOf f.type) : Field → Sem (Nat × Nat))).run P E.w = .ok fs.toArray E.w := by
        rw [← Array.toArray_toList (xs := fs'), List.mapM_toArray]
        rw [Sem.run_map, hm]
        rfl
      unfold zrO at hz
      cases hinf : P.info? ty with
      | none => simp [hinf] at hz
      | some inf =>
        simp only [hinf, Option.bind_some] at hz
        have hplace : (fun i : Nat => fs.toArray[i]?) = fun i : Nat => fs[i]? := by funext i; simp
        have hzero : (zeroValue ty).run P E.w = .ok z E.w := by simp [zeroValue, typeInfo, hinf, hz]
        have hrun : (Instr.build ty (ps.map fun x => (x.1, a.eval x.2)).toArray).run P E.w = .ok (.agg ru) E.w := by
          unfold Instr.build
          simp only [Sem.run_bind, hzero, Result.andThen_ok, run_underlying hu, hm', hplace, h1, Sem.run_pure]
        simp only [execOp, ho, List.map_toArray, Sem.run_bind, hrun, Result.andThen_ok, Sem.run_pure]
    · simp at hf

/-- The size of an array's elements. -/
def arF (P : Program) (t : TypeId) : Option Nat :=
  match P.underlying t with
  | some (.array _ e) => szO P e
  | _ => none

/-- [n]T{..} -/
theorem eff_buildA {o : Oper} {t : S} {ty : TypeId} {ps : List (Nat × Operand)} {k : Nat} {z : Value} {r : List TV} (ho : o.op = .build ty ps.toArray) (hf : arF P ty = some k) (hz : zrO P ty = some z)
    (hr : fillT (fun i => some (i * k, k)) ((zcells z).map ofCell) (ps.map fun x => (x.1, ev t x.2)) = some r) :
    EffOK P A o t ⟨∀ p ∈ ps.map (fun x => (x.1, ev t x.2)), ∀ c ∈ p.2.cells, c.one = true, ps.flatMap (fun x => pl x.2), [], .agg r⟩ :=
  .pure fun hC t' hr' a E hi => by
    have hpe := parts_eq hr'
    have hp := parts_rel hi ps
    rw [hpe] at hp
    have hz0 : RelVs E ((zcells z).map ofCell) z.cells.toList := by rw [zcells_eq]; exact ofCells_rel E _
    obtain ⟨ru, h1, h2⟩ := fill_rel (qs := ps.map fun x => (x.1, a.eval x.2)) hr hC hz0 (by simp) hp
    refine ⟨.agg ru, ?_, by simp only [RelV]; exact ⟨ru, rfl, h2⟩⟩
    unfold arF at hf
    split at hf
    · rename_i n e hu
      unfold zrO at hz
      cases hinf : P.info? ty with
      | none => simp [hinf] at hz
      | some inf =>
        simp only [hinf, Option.bind_some] at hz
        have hzero : (zeroValue ty).run P E.w = .ok z E.w := by simp [zeroValue, typeInfo, hinf, hz]
        have hsz : (sizeOf e).run P E.w = .ok k E.w := by
          unfold szO at hf
          cases hie : P.info? e with
          | none => simp [hie] at hf
          | some ie =>
            simp only [hie, Option.map_some, Option.some.injEq] at hf
            simp [sizeOf, typeInfo, hie, hf]
        have hrun : (Instr.build ty (ps.map fun x => (x.1, a.eval x.2)).toArray).run P E.w = .ok (.agg ru) E.w := by
          unfold Instr.build
          simp only [Sem.run_bind, hzero, Result.andThen_ok, run_underlying hu, hsz, h1, Sem.run_pure]
        simp only [execOp, ho, List.map_toArray, Sem.run_bind, hrun, Result.andThen_ok, Sem.run_pure]
    · simp at hf

end
end Go.Tr
