/-
  Laws of the layer between the model and plain data (states, operations, calls, loops); none has a condition beyond those that stand in its own statement.
-/
import Derived.Test.YtkhneohilohhiaaT11
set_option linter.unusedSimpArgs false
namespace Go.Tr
open Go

section
variable {P : Program} {A : Actv}

theorem EffOK.of {o : Oper} {t : S} {C : Prop} {rp : List Pl} {W : List (Pl × It)} {v : TV} (h : C → EffOK P A o t ⟨True, rp, W, v⟩) : EffOK P A o t ⟨C, rp, W, v⟩ := fun hC => h hC trivial

def asInt? : TV → Option (IntKind × Int)
  | .d (.int k n) => some (k, n)
  | _ => none

/-- bounds of a cut -/
def cutB (n : Nat) (lo hi : Option TV) : Option (Prop × Nat × Nat) :=
  match hi with
  | none => match lo with
    | none => some (True, 0, n)
    | some l => match asInt? l with
      | some (_, l) => some (0 ≤ l ∧ l ≤ n, l.toNat, n)
      | none => none
  | some h => match asInt? h with
    | none => none
    | some (_, h) => match lo with
      | none => some (0 ≤ h ∧ h ≤ n, 0, h.toNat)
      | some l => match asInt? l with
        | some (_, l) => some ((0 ≤ h ∧ h ≤ n) ∧ 0 ≤ l ∧ l ≤ h, l.toNat, h.toNat)
        | none => none

theorem asInt_rel {E : En} {v : TV} {u : Value} {k : IntKind} {n : Int} (h : asInt? v = some (k, n)) (hr : RelV E v u) : u = .int k n := by
  unfold asInt? at h
  split at h
  · simp only [Option.some.injEq, Prod.mk.injEq] at h
    obtain ⟨rfl, rfl⟩ := h
    simpa only [RelV, Rep] using hr
  · simp at h

theorem run_sliceBounds_eq {isS : Bool} {n cap : Nat} {lo hi : Option TV} {C : Prop} {l h : Nat} (hc : cutB n lo hi = some (C, l, h)) (hC : C) (hn : n ≤ cap) {E : En} {ulo uhi : Option Value}
    (h1 : ∀ v, lo = some v → ∃ u, ulo = some u ∧ RelV E v u) (h1' : lo = none → ulo = none) (h2 : ∀ v, hi = some v → ∃ u, uhi = some u ∧ RelV E v u) (h2' : hi = none → uhi = none) (w : World) :
    (Instr.sliceBounds isS n cap ulo uhi none).run P w = .ok (l, h, cap) w ∧ l ≤ h ∧ h ≤ n := by
  unfold cutB at hc
  split at hc
  · rw [h2' rfl]
    split at hc
    · simp only [Option.some.injEq, Prod.mk.injEq] at hc
      obtain ⟨_, rfl, rfl⟩ := hc
      rw [h1' rfl]
      exact ⟨by simp [Instr.sliceBounds], by omega, by omega⟩
    · rename_i lv
      split at hc
      · rename_i k q hq
        simp only [Option.some.injEq, Prod.mk.injEq] at hc
        obtain ⟨rfl, rfl, rfl⟩ := hc
        obtain ⟨u, hu, hr⟩ := h1 _ rfl
        have := asInt_rel hq hr
        subst this
        rw [hu]
        exact ⟨by simp [Instr.sliceBounds, Instr.sliceBound, asIntOf, hC.1, hC.2], by omega, by omega⟩
      · simp at hc
  · rename_i hv
    obtain ⟨uh, huh, hrh⟩ := h2 _ rfl
    rw [huh]
    split at hc
    · simp at hc
    · rename_i k q hq
      have := asInt_rel hq hrh
      subst this
      split at hc
      · simp only [Option.some.injEq, Prod.mk.injEq] at hc
        obtain ⟨rfl, rfl, rfl⟩ := hc
        rw [h1' rfl]
        have : q ≤ (cap : Int) := by omega
        exact ⟨by simp [Instr.sliceBounds, Instr.sliceBound, asIntOf, hC.1, this], by omega, by omega⟩
      · rename_i lv
        split at hc
        · rename_i k' q' hq'
          simp only [Option.some.injEq, Prod.mk.injEq] at hc
          obtain ⟨rfl, rfl, rfl⟩ := hc
          obtain ⟨u, hu, hr⟩ := h1 _ rfl
          have := asInt_rel hq' hr
          subst this
          rw [hu]
          have h3 : q ≤ (cap : Int) := by omega
          have h4 : q' ≤ ((q.toNat : Nat) : Int) := by omega
          exact ⟨by simp only [Instr.sliceBounds, Instr.sliceBound, asIntOf, Sem.run_bind, Sem.run_pure, Result.andThen_ok, Sem.run_ite, hC.1.1, h3, hC.2.1, h4, and_self, if_true, pure_bind], by omega, by omega⟩
        · simp at hc

theorem opt_rel {t : S} {a : Act} {E : En} (hi : InvE A t a E) (x : Option Operand) : (∀ v, x.map (ev t) = some v → ∃ u, x.map a.eval = some u ∧ RelV E v u) ∧ (x.map (ev t) = none → x.map a.eval = none) := by
  cases x with
  | none => simp
  | some x => simp; exact ev_rel hi x

def plO : Option Operand → List Pl
  | some x => pl x
  | none => []

theorem evO_eq {t t' : S} {x : Option Operand} (h : ∀ p ∈ plO x, t' p = t p) : x.map (ev t') = x.map (ev t) := by
  cases x with
  | none => rfl
  | some x => simp [ev_eq h]

/-- s[lo:hi] of plain data: plain data -/
theorem eff_slice_sl {o : Oper} {t : S} {ty e k : Nat} {x : Operand} {lo hi : Option Operand} {xs : List (List D)} {C : Prop} {l h : Nat} (ho : o.op = .slice ty x lo hi none) (he : slE P ty = some e) (hk : szO P e = some k) (hx : ev t x = .d (.sl xs))
    (hc : cutB xs.length (lo.map (ev t)) (hi.map (ev t)) = some (C, l, h)) : EffOK P A o t ⟨C ∧ ∀ e ∈ xs, e.length = k, pl x ++ (plO lo ++ plO hi), [], .d (.sl ((xs.take h).drop l))⟩ :=
  .pure fun ⟨hC, hlen⟩ t' hr a E hin => by
    have hx' := ev_rel hin x
    rw [ev_eq (pl_left hr), hx] at hx'
    have hlo := opt_rel hin lo
    rw [evO_eq (pl_left (pl_right hr))] at hlo
    have hhi := opt_rel hin hi
    rw [evO_eq (pl_right (pl_right hr))] at hhi
    unfold slE at he
    split at he
    rotate_left
    · simp at he
    rename_i e' hu
    simp only [Option.some.injEq] at he; subst he
    unfold szO at hk
    cases hinf : P.info? e' with
    | none => simp [hinf] at hk
    | some inf =>
    simp only [hinf, Option.map_some, Option.some.injEq] at hk
    simp only [RelV, Rep] at hx'
    rcases hx' with ⟨h0, ad, c, hux⟩ | ⟨b, of, c, k', hux, hcc, hrows⟩
    · rw [h0] at hc
      obtain ⟨hb, hlh, hhn⟩ := run_sliceBounds_eq (P := P) (isS := true) (cap := c) hc hC (Nat.zero_le _) hlo.1 hlo.2 hhi.1 hhi.2 E.w
      have hl0 : l = 0 := by omega
      have hh0 : h = 0 := by omega
      subst hl0; subst hh0
      refine ⟨.slice (if c = 0 then ad else ad.map (·.add (0 * k))) 0 c, ?_, ?_⟩
      · simp only [execOp, ho, Instr.sliceAt, Sem.run_bind, run_underlying hu, Result.andThen_ok, hux, Option.map_none, Instr.slice, hb, sizeOf, typeInfo, run_program, hinf, Sem.run_pure, hk, Nat.sub_zero]
      · simp only [RelV, Rep]
        exact .inl ⟨by simp, _, _, rfl⟩
    · obtain ⟨hb, hlh, hhn⟩ := run_sliceBounds_eq (P := P) (isS := true) (cap := c) hc hC hcc hlo.1 hlo.2 hhi.1 hhi.2 E.w
      refine ⟨.slice (if c = l then some ⟨b, of, none⟩ else some ⟨b, of + l * k, none⟩) (h - l) (c - l), ?_, ?_⟩
      · simp only [execOp, ho, Instr.sliceAt, Sem.run_bind, run_underlying hu, Result.andThen_ok, hux, Option.map_none, Instr.slice, hb, sizeOf, typeInfo, run_program, hinf, Sem.run_pure, hk, Option.map_some, add_lit']
      · have hln : ((xs.take h).drop l).length = h - l := by simp; omega
        simp only [RelV, Rep]
        by_cases hz : h - l = 0
        · exact .inl ⟨by omega, _, _, by rw [hz]⟩
        · refine .inr ⟨b, of + l * k, c - l, k, ?_, by omega, RepRows.of_get fun i el hel => ?_⟩
          · rw [if_neg (by omega), hln]
          · have hel' : xs[l + i]? = some el := by
              rw [List.getElem?_drop, List.getElem?_take] at hel
              split at hel
              · exact hel
              · simp at hel
            obtain ⟨h3, h4⟩ := hrows.get hel'
            have hkk : el.length = k := hlen el (List.mem_of_getElem? hel')
            have : k' = k := by omega
            subst this
            refine ⟨h3, ?_⟩
            rwa [Nat.add_mul, ← Nat.add_assoc] at h4

theorem eff_slice_str {o : Oper} {t : S} {ty : Nat} {x : Operand} {lo hi : Option Operand} {s : ByteArray} {C : Prop} {l h : Nat} (ho : o.op = .slice ty x lo hi none) (he : isStr P ty = true) (hx : ev t x = .d (.str s))
    (hc : cutB s.size (lo.map (ev t)) (hi.map (ev t)) = some (C, l, h)) : EffOK P A o t ⟨C, pl x ++ (plO lo ++ plO hi), [], .d (.str (s.extract l h))⟩ :=
  .pure fun hC t' hr a E hin => by
    have hx' := ev_rel hin x
    rw [ev_eq (pl_left hr), hx] at hx'
    have hlo := opt_rel hin lo
    rw [evO_eq (pl_left (pl_right hr))] at hlo
    have hhi := opt_rel hin hi
    rw [evO_eq (pl_right (pl_right hr))] at hhi
    unfold isStr at he
    split at he
    · rename_i hu
      simp only [RelV, Rep] at hx'
      obtain ⟨hb, hlh, hhn⟩ := run_sliceBounds_eq (P := P) (isS := false) (cap := s.size) hc hC (Nat.le_refl _) hlo.1 hlo.2 hhi.1 hhi.2 E.w
      refine ⟨.string (s.extract l h), ?_, by simp only [RelV, Rep]⟩
      simp only [execOp, ho, Instr.sliceAt, Sem.run_bind, run_underlying hu, Result.andThen_ok, hx', Option.map_none, Instr.slice, Option.isSome_none, Bool.false_eq_true, if_false, hb, Sem.run_pure, pure_bind]
    · simp at he

/-! ### min, max -/
def minI (k : IntKind) (a b : Int) : TV := .d (.int k (if b < a then b else a))
def maxI (k : IntKind) (a b : Int) : TV := .d (.int k (if b > a then b else a))

theorem eff_min {o : Oper} {t : S} {x y : Operand} {tys : Array TypeId} {k k' : IntKind} {a b : Int} (ho : o.op = .call { callee := .builtin .min, args := #[x, y], argTypes := tys }) (hx : ev t x = .d (.int k a)) (hy : ev t y = .d (.int k' b)) :
    EffOK P A o t ⟨True, pl x ++ pl y, [], minI k a b⟩ :=
  .pure fun _ t' hr ac E hi => by
    have hx' := ev_rel hi x
    rw [ev_eq (pl_left hr), hx] at hx'
    have hy' := ev_rel hi y
    rw [ev_eq (pl_right hr), hy] at hy'
    simp only [RelV, Rep] at hx' hy'
    refine ⟨.int k (if b < a then b else a), ?_, by simp only [minI, RelV, Rep]⟩
    simp [execOp, ho, resolve, invoke, builtin, Builtin.min_, hx', hy', Builtin.min2]

theorem eff_max {o : Oper} {t : S} {x y : Operand} {tys : Array TypeId} {k k' : IntKind} {a b : Int} (ho : o.op = .call { callee := .builtin .max, args := #[x, y], argTypes := tys }) (hx : ev t x = .d (.int k a)) (hy : ev t y = .d (.int k' b)) :
    EffOK P A o t ⟨True, pl x ++ pl y, [], maxI k a b⟩ :=
  .pure fun _ t' hr ac E hi => by
    have hx' := ev_rel hi x
    rw [ev_eq (pl_left hr), hx] at hx'
    have hy' := ev_rel hi y
    rw [ev_eq (pl_right hr), hy] at hy'
    simp only [RelV, Rep] at hx' hy'
    refine ⟨.int k (if b > a then b else a), ?_, by simp only [maxI, RelV, Rep]⟩
    simp [execOp, ho, resolve, invoke, builtin, Builtin.max_, hx', hy', Builtin.max2]

/-! ### a field of a struct in a slot, an element of an array in a slot, a byte of a string -/
theorem run_part_one {ty : TypeId} (h : shp P ty = some false) {cs : Array Value} {q : Nat} {u : Value} (hc : cs[q]? = some u) (w : World) : (part ty cs q).run P w = .ok u w := by
  unfold shp at h
  cases hu : P.underlying ty with
  | none => simp [hu] at h
  | some d =>
    have : (isAgg ty).run P w = .ok false w := by
      unfold isAgg
      rw [Sem.run_bind, run_underlying hu w]
      cases d <;> simp_all
    simp [part, this, hc]

theorem run_part_agg {ty z : Nat} (h : shp P ty = some true) (hz : szO P ty = some z) {cs : Array Value} {q : Nat} (w : World) : (part ty cs q).run P w = .ok (.agg (cs.extract q (q + z))) w := by
  unfold shp at h
  cases hu : P.underlying ty with
  | none => simp [hu] at h
  | some d =>
    have : (isAgg ty).run P w = .ok true w := by
      unfold isAgg
      rw [Sem.run_bind, run_underlying hu w]
      cases d <;> simp_all
    unfold szO at hz
    cases hinf : P.info? ty with
    | none => simp [hinf] at hz
    | some inf =>
      simp only [hinf, Option.map_some, Option.some.injEq] at hz
      simp [part, this, sizeOf, typeInfo, hinf, hz]

/-- a part of the cells of a value -/
def partT (P : Program) (ty : TypeId) (vs : List TV) (q : Nat) : Option TV :=
  match shp P ty with
  | some false => vs[q]?
  | some true => match szO P ty with
    | some z => some (.agg ((vs.drop q).take z))
    | none => none
  | none => none

theorem RelVs.sub {E : En} {ts : List TV} {us : List Value} (h : RelVs E ts us) (q z : Nat) : RelVs E ((ts.drop q).take z) ((us.drop q).take z) :=
  RelVs.of_get (by simp [h.length]) fun i t u ht hu => by
    rw [List.getElem?_take] at ht hu
    split at ht
    · rename_i hi
      rw [if_pos hi, List.getElem?_drop] at hu
      rw [List.getElem?_drop] at ht
      obtain ⟨u', h1, h2⟩ := h.get ht
      rw [hu] at h1; simp only [Option.some.injEq] at h1; rw [h1]; exact h2
    · simp at ht

theorem partT_rel {ty : TypeId} {vs : List TV} {q : Nat} {v : TV} (h : partT P ty vs q = some v) {E : En} {us : Array Value} (hr : RelVs E vs us.toList) : ∃ u, (part ty us q).run P E.w = .ok u E.w ∧ RelV E v u := by
  unfold partT at h
  split at h
  · rename_i hs
    obtain ⟨u, h1, h2⟩ := hr.get h
    exact ⟨u, run_part_one hs (by simpa using h1) _, h2⟩
  · rename_i hs
    split at h
    · rename_i z hz
      simp only [Option.some.injEq] at h; subst h
      refine ⟨_, run_part_agg hs hz _, ?_⟩
      simp only [RelV]
      refine ⟨_, rfl, ?_⟩
      have := hr.sub q z
      rw [Array.toList_extract, List.extract_eq_take_drop, show q + z - q = z by omega]
      exact this
    · simp at h
  · simp at h

theorem eff_field {o : Oper} {t : S} {ty f off : Nat} {ft : TypeId} {x : Operand} {vs : List TV} {v : TV} (ho : o.op = .field ty x f) (hf : fld P ty f = some (off, ft)) (hx : ev t x = .agg vs) (hv : partT P ft vs off = some v) :
    EffOK P A o t ⟨True, pl x, [], v⟩ :=
  .pure fun _ t' hr a E hi => by
    have hx' := ev_rel hi x
    rw [ev_eq hr, hx] at hx'
    simp only [RelV] at hx'
    obtain ⟨us, hu, hrs⟩ := hx'
    obtain ⟨u, h1, h2⟩ := partT_rel hv hrs
    refine ⟨u, ?_, h2⟩
    unfold fld at hf
    split at hf
    · rename_i fs hfs
      cases hff : fs[f]? with
      | none => simp [hff] at hf
      | some g =>
        simp only [hff, Option.map_some, Option.some.injEq, Prod.mk.injEq] at hf
        obtain ⟨rfl, rfl⟩ := hf
        simp [execOp, ho, hu, Instr.field, run_underlying hfs, hff, asAgg, h1]
    · simp at hf

theorem eff_index_arr {o : Oper} {t : S} {ty n e k : Nat} {x ix : Operand} {vs : List TV} {v : TV} {ik : IntKind} {i : Int} (ho : o.op = .index ty x ix) (he : arE P ty = some (n, e)) (hk : szO P e = some k) (hx : ev t x = .agg vs) (hix : ev t ix = .d (.int ik i))
    (hv : partT P e vs (i.toNat * k) = some v) : EffOK P A o t ⟨0 ≤ i ∧ i < n, pl x ++ pl ix, [], v⟩ :=
  .pure fun ⟨h0, h1⟩ t' hr a E hi => by
    have hx' := ev_rel hi x
    rw [ev_eq (pl_left hr), hx] at hx'
    have hix' := ev_rel hi ix
    rw [ev_eq (pl_right hr), hix] at hix'
    simp only [RelV, Rep] at hx' hix'
    obtain ⟨us, hu, hrs⟩ := hx'
    obtain ⟨u, h2, h3⟩ := partT_rel hv hrs
    refine ⟨u, ?_, h3⟩
    unfold arE at he
    split at he
    · rename_i n' e' hun
      simp only [Option.some.injEq, Prod.mk.injEq] at he
      obtain ⟨rfl, rfl⟩ := he
      unfold szO at hk
      cases hinf : P.info? e' with
      | none => simp [hinf] at hk
      | some inf =>
        simp only [hinf, Option.map_some, Option.some.injEq] at hk
        simp [execOp, ho, hu, hix', Instr.index, asIntOf, run_underlying hun, h0, h1, sizeOf, typeInfo, hinf, hk, h2]
    · simp at he

theorem eff_index_str {o : Oper} {t : S} {ty : Nat} {x ix : Operand} {s : ByteArray} {ik : IntKind} {i : Int} (ho : o.op = .index ty x ix) (he : isStr P ty = true) (hx : ev t x = .d (.str s)) (hix : ev t ix = .d (.int ik i)) :
    EffOK P A o t ⟨0 ≤ i ∧ i < s.size, pl x ++ pl ix, [], .d (.int .u8 (s.data.getD i.toNat 0).toNat)⟩ :=
  .pure fun ⟨h0, h1⟩ t' hr a E hi => by
    have hx' := ev_rel hi x
    rw [ev_eq (pl_left hr), hx] at hx'
    have hix' := ev_rel hi ix
    rw [ev_eq (pl_right hr), hix] at hix'
    simp only [RelV, Rep] at hx' hix'
    unfold isStr at he
    split at he
    · rename_i hu
      have hlt : i.toNat < s.size := by omega
      refine ⟨.int .u8 (s[i.toNat]).toNat, ?_, ?_⟩
      · simp [execOp, ho, hx', hix', Instr.index, asIntOf, run_underlying hu, h0, hlt]
      · simp only [RelV, Rep]
        have hlt' : i.toNat < s.data.size := hlt
        simp [Array.getD, hlt', hlt, ByteArray.getElem_eq_getElem_data]
    · simp at he

end
end Go.Tr
