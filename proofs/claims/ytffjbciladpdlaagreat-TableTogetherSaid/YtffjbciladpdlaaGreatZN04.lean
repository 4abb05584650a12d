/-
  What functions of the program compute, stated as contracts over plain data; the conditions of each stand in its own statement.
-/
import Derived.Test.YtffjbciladpdlaaGreatZN03
import Derived.Laws.IdiomStrings
import Derived.Laws.StructEq
import Derived.MapKept
set_option linter.unusedSimpArgs false
namespace Go.Tr
open Go
section
variable {P : Program} {A : Actv}
theorem EffOK.of {o : Oper} {t : S} {C : Prop} {rp : List Pl} {W : List (Pl × It)} {v : TV} (h : C → EffOK P A o t ⟨True, rp, W, v⟩) : EffOK P A o t ⟨C, rp, W, v⟩ := fun hC => h hC trivial
def asInt? : TV → Option (IntKind × Int)
 | .d (.int k n) => some (k, n)
 | _ => none
def cutB (n : Nat) (lo hi : Option TV) : Option (Prop × Nat × Nat) :=
 match hi with
 | none => match lo with
   | none => some (True, 0, n)
   | some l => match asInt? l with
     | some (_, l) => some (0 ≤ l ∧ l ≤ n, l.toNat, n)
     | none => none
 | some h => match asInt? h with
   | none => none
   | some (_, h) => match lo with
     | none => some (0 ≤ h ∧ h ≤ n, 0, h.toNat)
     | some l => match asInt? l with
       | some (_, l) => some ((0 ≤ h ∧ h ≤ n) ∧ 0 ≤ l ∧ l ≤ h, l.toNat, h.toNat)
       | none => none
theorem asInt_rel {E : En} {v : TV} {u : Value} {k : IntKind} {n : Int} (h : asInt? v = some (k, n)) (hr : RelV E v u) : u = .int k n := by
 unfold asInt? at h
 split at h
 ·simp only [Option.some.injEq, Prod.mk.injEq] at h
  obtain ⟨rfl, rfl⟩ := h
  simpa only [RelV, Rep] using hr
 ·simp at h
theorem run_sliceBounds_eq {isS : Bool} {n cap : Nat} {lo hi : Option TV} {C : Prop} {l h : Nat} (hc : cutB n lo hi = some (C, l, h)) (hC : C) (hn : n ≤ cap) {E : En} {ulo uhi : Option Value}
  (h1 : ∀ v, lo = some v → ∃ u, ulo = some u ∧ RelV E v u) (h1' : lo = none → ulo = none) (h2 : ∀ v, hi = some v → ∃ u, uhi = some u ∧ RelV E v u) (h2' : hi = none → uhi = none) (w : World) :
  (Instr.sliceBounds isS n cap ulo uhi none).run P w = .ok (l, h, cap) w ∧ l ≤ h ∧ h ≤ n := by
 unfold cutB at hc
 split at hc
 ·rw [h2' rfl]
  split at hc
  ·simp only [Option.some.injEq, Prod.mk.injEq] at hc
   obtain ⟨_, rfl, rfl⟩ := hc
   rw [h1' rfl]
   exact ⟨by simp [Instr.sliceBounds], by omega, by omega⟩
  ·rename_i lv
   split at hc
   ·rename_i k q hq
    simp only [Option.some.injEq, Prod.mk.injEq] at hc
    obtain ⟨rfl, rfl, rfl⟩ := hc
    obtain ⟨u, hu, hr⟩ := h1 _ rfl
    have := asInt_rel hq hr
    subst this
    rw [hu]
    exact ⟨by simp [Instr.sliceBounds, Instr.sliceBound, asIntOf, hC.1, hC.2], by omega, by omega⟩
   ·simp at hc
 ·rename_i hv
  obtain ⟨uh, huh, hrh⟩ := h2 _ rfl
  rw [huh]
  split at hc
  ·simp at hc
  ·rename_i k q hq
   have := asInt_rel hq hrh
   subst this
   split at hc
   ·simp only [Option.some.injEq, Prod.mk.injEq] at hc
    obtain ⟨rfl, rfl, rfl⟩ := hc
    rw [h1' rfl]
    have : q ≤ (cap : Int) := by omega
    exact ⟨by simp [Instr.sliceBounds, Instr.sliceBound, asIntOf, hC.1, this], by omega, by omega⟩
   ·rename_i lv
    split at hc
    ·rename_i k' q' hq'
     simp only [Option.some.injEq, Prod.mk.injEq] at hc
     obtain ⟨rfl, rfl, rfl⟩ := hc
     obtain ⟨u, hu, hr⟩ := h1 _ rfl
     have := asInt_rel hq' hr
     subst this
     rw [hu]
     have h3 : q ≤ (cap : Int) := by omega
     have h4 : q' ≤ ((q.toNat : Nat) : Int) := by omega
     exact ⟨by simp only [Instr.sliceBounds, Instr.sliceBound, asIntOf, Sem.run_bind, Sem.run_pure, Result.andThen_ok, Sem.run_ite, hC.1.1, h3, hC.2.1, h4, and_self, if_true, pure_bind], by omega, by omega⟩
    ·simp at hc
theorem opt_rel {t : S} {a : Act} {E : En} (hi : InvE A t a E) (x : Option Operand) : (∀ v, x.map (ev t) = some v → ∃ u, x.map a.eval = some u ∧ RelV E v u) ∧ (x.map (ev t) = none → x.map a.eval = none) := by
 cases x with
 | none => simp
 | some x => simp; exact ev_rel hi x
def plO : Option Operand → List Pl
 | some x => pl x
 | none => []
theorem evO_eq {t t' : S} {x : Option Operand} (h : ∀ p ∈ plO x, t' p = t p) : x.map (ev t') = x.map (ev t) := by
 cases x with
 | none => rfl
 | some x => simp [ev_eq h]
theorem eff_slice_sl {o : Oper} {t : S} {ty e k : Nat} {x : Operand} {lo hi : Option Operand} {xs : List (List D)} {C : Prop} {l h : Nat} (ho : o.op = .slice ty x lo hi none) (he : slE P ty = some e) (hk : szO P e = some k) (hx : ev t x = .d (.sl xs))
  (hc : cutB xs.length (lo.map (ev t)) (hi.map (ev t)) = some (C, l, h)) : EffOK P A o t ⟨C ∧ ∀ e ∈ xs, e.length = k, pl x ++ (plO lo ++ plO hi), [], .d (.sl ((xs.take h).drop l))⟩ :=
 .pure fun ⟨hC, hlen⟩ t' hr a E hin => by
  have hx' := ev_rel hin x
  rw [ev_eq (pl_left hr), hx] at hx'
  have hlo := opt_rel hin lo
  rw [evO_eq (pl_left (pl_right hr))] at hlo
  have hhi := opt_rel hin hi
  rw [evO_eq (pl_right (pl_right hr))] at hhi
  unfold slE at he
  split at he
  rotate_left
  ·simp at he
  rename_i e' hu
  simp only [Option.some.injEq] at he; subst he
  unfold szO at hk
  cases hinf : P.info? e' with
  | none => simp [hinf] at hk
  | some inf =>
  simp only [hinf, Option.map_some, Option.some.injEq] at hk
  simp only [RelV, Rep] at hx'
  rcases hx' with ⟨h0, ad, c, hux⟩ | ⟨b, of, c, k', hux, hcc, hrows⟩
  ·rw [h0] at hc
   obtain ⟨hb, hlh, hhn⟩ := run_sliceBounds_eq (P := P) (isS := true) (cap := c) hc hC (Nat.zero_le _) hlo.1 hlo.2 hhi.1 hhi.2 E.w
   have hl0 : l = 0 := by omega
   have hh0 : h = 0 := by omega
   subst hl0; subst hh0
   refine ⟨.slice (if c = 0 then ad else ad.map (·.add (0 * k))) 0 c, ?_, ?_⟩
   ·simp only [execOp, ho, Instr.sliceAt, Sem.run_bind, run_underlying hu, Result.andThen_ok, hux, Option.map_none, Instr.slice, hb, sizeOf, typeInfo, run_program, hinf, Sem.run_pure, hk, Nat.sub_zero]
   ·simp only [RelV, Rep]
    exact .inl ⟨by simp, _, _, rfl⟩
  ·obtain ⟨hb, hlh, hhn⟩ := run_sliceBounds_eq (P := P) (isS := true) (cap := c) hc hC hcc hlo.1 hlo.2 hhi.1 hhi.2 E.w
   refine ⟨.slice (if c = l then some ⟨b, of, none⟩ else some ⟨b, of + l * k, none⟩) (h - l) (c - l), ?_, ?_⟩
   ·simp only [execOp, ho, Instr.sliceAt, Sem.run_bind, run_underlying hu, Result.andThen_ok, hux, Option.map_none, Instr.slice, hb, sizeOf, typeInfo, run_program, hinf, Sem.run_pure, hk, Option.map_some, add_lit']
   ·have hln : ((xs.take h).drop l).length = h - l := by simp; omega
    simp only [RelV, Rep]
    by_cases hz : h - l = 0
    ·exact .inl ⟨by omega, _, _, by rw [hz]⟩
    ·refine .inr ⟨b, of + l * k, c - l, k, ?_, by omega, RepRows.of_get fun i el hel => ?_⟩
     ·rw [if_neg (by omega), hln]
     ·have hel' : xs[l + i]? = some el := by
       rw [List.getElem?_drop, List.getElem?_take] at hel
       split at hel
       ·exact hel
       ·simp at hel
      obtain ⟨h3, h4⟩ := hrows.get hel'
      have hkk : el.length = k := hlen el (List.mem_of_getElem? hel')
      have : k' = k := by omega
      subst this
      refine ⟨h3, ?_⟩
      rwa [Nat.add_mul, ← Nat.add_assoc] at h4
theorem eff_slice_str {o : Oper} {t : S} {ty : Nat} {x : Operand} {lo hi : Option Operand} {s : ByteArray} {C : Prop} {l h : Nat} (ho : o.op = .slice ty x lo hi none) (he : isStr P ty = true) (hx : ev t x = .d (.str s))
  (hc : cutB s.size (lo.map (ev t)) (hi.map (ev t)) = some (C, l, h)) : EffOK P A o t ⟨C, pl x ++ (plO lo ++ plO hi), [], .d (.str (s.extract l h))⟩ :=
 .pure fun hC t' hr a E hin => by
  have hx' := ev_rel hin x
  rw [ev_eq (pl_left hr), hx] at hx'
  have hlo := opt_rel hin lo
  rw [evO_eq (pl_left (pl_right hr))] at hlo
  have hhi := opt_rel hin hi
  rw [evO_eq (pl_right (pl_right hr))] at hhi
  unfold isStr at he
  split at he
  ·rename_i hu
   simp only [RelV, Rep] at hx'
   obtain ⟨hb, hlh, hhn⟩ := run_sliceBounds_eq (P := P) (isS := false) (cap := s.size) hc hC (Nat.le_refl _) hlo.1 hlo.2 hhi.1 hhi.2 E.w
   refine ⟨.string (s.extract l h), ?_, by simp only [RelV, Rep]⟩
   simp only [execOp, ho, Instr.sliceAt, Sem.run_bind, run_underlying hu, Result.andThen_ok, hx', Option.map_none, Instr.slice, Option.isSome_none, Bool.false_eq_true, if_false, hb, Sem.run_pure, pure_bind]
  ·simp at he
def minI (k : IntKind) (a b : Int) : TV := .d (.int k (if b < a then b else a))
def maxI (k : IntKind) (a b : Int) : TV := .d (.int k (if b > a then b else a))
theorem eff_min {o : Oper} {t : S} {x y : Operand} {tys : Array TypeId} {k k' : IntKind} {a b : Int} (ho : o.op = .call { callee := .builtin .min, args := #[x, y], argTypes := tys }) (hx : ev t x = .d (.int k a)) (hy : ev t y = .d (.int k' b)) :
  EffOK P A o t ⟨True, pl x ++ pl y, [], minI k a b⟩ :=
 .pure fun _ t' hr ac E hi => by
  have hx' := ev_rel hi x
  rw [ev_eq (pl_left hr), hx] at hx'
  have hy' := ev_rel hi y
  rw [ev_eq (pl_right hr), hy] at hy'
  simp only [RelV, Rep] at hx' hy'
  refine ⟨.int k (if b < a then b else a), ?_, by simp only [minI, RelV, Rep]⟩
  simp [execOp, ho, resolve, invoke, builtin, Builtin.min_, hx', hy', Builtin.min2]
theorem eff_max {o : Oper} {t : S} {x y : Operand} {tys : Array TypeId} {k k' : IntKind} {a b : Int} (ho : o.op = .call { callee := .builtin .max, args := #[x, y], argTypes := tys }) (hx : ev t x = .d (.int k a)) (hy : ev t y = .d (.int k' b)) :
  EffOK P A o t ⟨True, pl x ++ pl y, [], maxI k a b⟩ :=
 .pure fun _ t' hr ac E hi => by
  have hx' := ev_rel hi x
  rw [ev_eq (pl_left hr), hx] at hx'
  have hy' := ev_rel hi y
  rw [ev_eq (pl_right hr), hy] at hy'
  simp only [RelV, Rep] at hx' hy'
  refine ⟨.int k (if b > a then b else a), ?_, by simp only [maxI, RelV, Rep]⟩
  simp [execOp, ho, resolve, invoke, builtin, Builtin.max_, hx', hy', Builtin.max2]
theorem run_part_one {ty : TypeId} (h : shp P ty = some false) {cs : Array Value} {q : Nat} {u : Value} (hc : cs[q]? = some u) (w : World) : (part ty cs q).run P w = .ok u w := by
 unfold shp at h
 cases hu : P.underlying ty with
 | none => simp [hu] at h
 | some d =>
   have : (isAgg ty).run P w = .ok false w := by
    unfold isAgg
    rw [Sem.run_bind, run_underlying hu w]
    cases d <;> simp_all
   simp [part, this, hc]
theorem run_part_agg {ty z : Nat} (h : shp P ty = some true) (hz : szO P ty = some z) {cs : Array Value} {q : Nat} (w : World) : (part ty cs q).run P w = .ok (.agg (cs.extract q (q + z))) w := by
 unfold shp at h
 cases hu : P.underlying ty with
 | none => simp [hu] at h
 | some d =>
   have : (isAgg ty).run P w = .ok true w := by
    unfold isAgg
    rw [Sem.run_bind, run_underlying hu w]
    cases d <;> simp_all
   unfold szO at hz
   cases hinf : P.info? ty with
   | none => simp [hinf] at hz
   | some inf =>
     simp only [hinf, Option.map_some, Option.some.injEq] at hz
     simp [part, this, sizeOf, typeInfo, hinf, hz]
def partT (P : Program) (ty : TypeId) (vs : List TV) (q : Nat) : Option TV :=
 match shp P ty with
 | some false => vs[q]?
 | some true => match szO P ty with
   | some z => some (.agg ((vs.drop q).take z))
   | none => none
 | none => none
theorem RelVs.sub {E : En} {ts : List TV} {us : List Value} (h : RelVs E ts us) (q z : Nat) : RelVs E ((ts.drop q).take z) ((us.drop q).take z) :=
 RelVs.of_get (by simp [h.length]) fun i t u ht hu => by
  rw [List.getElem?_take] at ht hu
  split at ht
  ·rename_i hi
   rw [if_pos hi, List.getElem?_drop] at hu
   rw [List.getElem?_drop] at ht
   obtain ⟨u', h1, h2⟩ := h.get ht
   rw [hu] at h1; simp only [Option.some.injEq] at h1; rw [h1]; exact h2
  ·simp at ht
theorem partT_rel {ty : TypeId} {vs : List TV} {q : Nat} {v : TV} (h : partT P ty vs q = some v) {E : En} {us : Array Value} (hr : RelVs E vs us.toList) : ∃ u, (part ty us q).run P E.w = .ok u E.w ∧ RelV E v u := by
 unfold partT at h
 split at h
 ·rename_i hs
  obtain ⟨u, h1, h2⟩ := hr.get h
  exact ⟨u, run_part_one hs (by simpa using h1) _, h2⟩
 ·rename_i hs
  split at h
  ·rename_i z hz
   simp only [Option.some.injEq] at h; subst h
   refine ⟨_, run_part_agg hs hz _, ?_⟩
   simp only [RelV]
   refine ⟨_, rfl, ?_⟩
   have := hr.sub q z
   rw [Array.toList_extract, List.extract_eq_take_drop, show q + z - q = z by omega]
   exact this
  ·simp at h
 ·simp at h
theorem eff_field {o : Oper} {t : S} {ty f off : Nat} {ft : TypeId} {x : Operand} {vs : List TV} {v : TV} (ho : o.op = .field ty x f) (hf : fld P ty f = some (off, ft)) (hx : ev t x = .agg vs) (hv : partT P ft vs off = some v) :
  EffOK P A o t ⟨True, pl x, [], v⟩ :=
 .pure fun _ t' hr a E hi => by
  have hx' := ev_rel hi x
  rw [ev_eq hr, hx] at hx'
  simp only [RelV] at hx'
  obtain ⟨us, hu, hrs⟩ := hx'
  obtain ⟨u, h1, h2⟩ := partT_rel hv hrs
  refine ⟨u, ?_, h2⟩
  unfold fld at hf
  split at hf
  ·rename_i fs hfs
   cases hff : fs[f]? with
   | none => simp [hff] at hf
   | some g =>
     simp only [hff, Option.map_some, Option.some.injEq, Prod.mk.injEq] at hf
     obtain ⟨rfl, rfl⟩ := hf
     simp [execOp, ho, hu, Instr.field, run_underlying hfs, hff, asAgg, h1]
  ·simp at hf
theorem eff_index_arr {o : Oper} {t : S} {ty n e k : Nat} {x ix : Operand} {vs : List TV} {v : TV} {ik : IntKind} {i : Int} (ho : o.op = .index ty x ix) (he : arE P ty = some (n, e)) (hk : szO P e = some k) (hx : ev t x = .agg vs) (hix : ev t ix = .d (.int ik i))
  (hv : partT P e vs (i.toNat * k) = some v) : EffOK P A o t ⟨0 ≤ i ∧ i < n, pl x ++ pl ix, [], v⟩ :=
 .pure fun ⟨h0, h1⟩ t' hr a E hi => by
  have hx' := ev_rel hi x
  rw [ev_eq (pl_left hr), hx] at hx'
  have hix' := ev_rel hi ix
  rw [ev_eq (pl_right hr), hix] at hix'
  simp only [RelV, Rep] at hx' hix'
  obtain ⟨us, hu, hrs⟩ := hx'
  obtain ⟨u, h2, h3⟩ := partT_rel hv hrs
  refine ⟨u, ?_, h3⟩
  unfold arE at he
  split at he
  ·rename_i n' e' hun
   simp only [Option.some.injEq, Prod.mk.injEq] at he
   obtain ⟨rfl, rfl⟩ := he
   unfold szO at hk
   cases hinf : P.info? e' with
   | none => simp [hinf] at hk
   | some inf =>
     simp only [hinf, Option.map_some, Option.some.injEq] at hk
     simp [execOp, ho, hu, hix', Instr.index, asIntOf, run_underlying hun, h0, h1, sizeOf, typeInfo, hinf, hk, h2]
  ·simp at he
theorem eff_index_str {o : Oper} {t : S} {ty : Nat} {x ix : Operand} {s : ByteArray} {ik : IntKind} {i : Int} (ho : o.op = .index ty x ix) (he : isStr P ty = true) (hx : ev t x = .d (.str s)) (hix : ev t ix = .d (.int ik i)) :
  EffOK P A o t ⟨0 ≤ i ∧ i < s.size, pl x ++ pl ix, [], .d (.int .u8 (s.data.getD i.toNat 0).toNat)⟩ :=
 .pure fun ⟨h0, h1⟩ t' hr a E hi => by
  have hx' := ev_rel hi x
  rw [ev_eq (pl_left hr), hx] at hx'
  have hix' := ev_rel hi ix
  rw [ev_eq (pl_right hr), hix] at hix'
  simp only [RelV, Rep] at hx' hix'
  unfold isStr at he
  split at he
  ·rename_i hu
   have hlt : i.toNat < s.size := by omega
   refine ⟨.int .u8 (s[i.toNat]).toNat, ?_, ?_⟩
   ·simp [execOp, ho, hx', hix', Instr.index, asIntOf, run_underlying hu, h0, hlt]
   ·simp only [RelV, Rep]
    have hlt' : i.toNat < s.data.size := hlt
    simp [Array.getD, hlt', hlt, ByteArray.getElem_eq_getElem_data]
  ·simp at he
end
end Go.Tr

namespace Go.Tr
open Go
def u8s : List (List D) → Option (List Int)
 | [] => some []
 | [.int .u8 n] :: l => match u8s l with
   | some ns => some (n :: ns)
   | none => none
 | _ => none
def strOf (ns : List Int) : ByteArray := ns.foldl (fun r n => r.push (UInt8.ofNat n.toNat)) ByteArray.empty
def u8K (P : Program) (ty : TypeId) : Bool :=
 match P.underlying ty with
 | some (.int .u8) => true
 | _ => false
section
variable {P : Program} {A : Actv}
theorem u8s_cells {E : En} {b k : Nat} : ∀ {xs : List (List D)} {ns : List Int} {o : Nat}, u8s xs = some ns → RepRows E b k o xs → xs.length = ns.length ∧ ∀ j n, ns[j]? = some n → E.w.cell? ⟨b, o + j, none⟩ = some (.int .u8 n)
 | [], ns, o, h, _ => by simp only [u8s, Option.some.injEq] at h; subst h; simp
 | e :: l, ns, o, h, hr => by
   unfold u8s at h
   split at h
   ·simp at *
   ·rename_i n l' heq
    simp only [List.cons.injEq] at heq
    obtain ⟨rfl, rfl⟩ := heq
    split at h
    ·rename_i ns' h'
     simp only [Option.some.injEq] at h; subst h
     simp only [RepRows] at hr
     obtain ⟨h1, h2, h3⟩ := hr
     simp only [List.length_cons, List.length_nil, Nat.zero_add] at h1
     subst h1
     obtain ⟨g1, g2⟩ := u8s_cells h' h3
     refine ⟨by simp [g1], fun j m hj => ?_⟩
     cases j with
     | zero =>
       simp only [List.getElem?_cons_zero, Option.some.injEq] at hj; subst hj
       simp only [RepCells] at h2
       obtain ⟨⟨_, u, h4, h5⟩, _⟩ := h2
       simp only [Rep] at h5; subst h5
       simpa using h4
     | succ j =>
       simp only [List.getElem?_cons_succ] at hj
       have := g2 j m hj
       rwa [show o + 1 + j = o + (j + 1) by omega] at this
    ·simp at h
   ·simp at h
theorem eff_convS {o : Oper} {t : S} {sr ds e : TypeId} {x : Operand} {xs : List (List D)} {ns : List Int} (ho : o.op = .convert sr ds x) (hs : slE P sr = some e) (he : u8K P e = true) (hd : isStr P ds = true) (hx : ev t x = .d (.sl xs)) (hn : u8s xs = some ns) :
  EffOK P A o t ⟨True, pl x, [], .d (.str (strOf ns))⟩ :=
 .pure fun _ t' hr a E hi => by
  have hx' := ev_rel hi x
  rw [ev_eq hr, hx] at hx'
  unfold slE at hs
  split at hs
  rotate_left
  ·simp at hs
  rename_i e' hu
  simp only [Option.some.injEq] at hs; subst hs
  unfold u8K at he
  split at he
  rotate_left
  ·simp at he
  rename_i he'
  have hd' : P.underlying ds = some .string := by
   unfold isStr at hd
   split at hd
   ·assumption
   ·simp at hd
  refine ⟨.string (strOf ns), ?_, by simp only [RelV, Rep]⟩
  simp only [execOp, ho, Sem.run_bind]
  simp only [RelV, Rep] at hx'
  rcases hx' with ⟨h0, ad, c, hux⟩ | ⟨b, of, c, k', hux, hcc, hrows⟩
  ·have hxs : xs = [] := List.eq_nil_of_length_eq_zero h0
   subst hxs
   simp only [u8s, Option.some.injEq] at hn; subst hn
   rw [hux, run_convert_bytes_string E.w sr ds e' ad 0 c hu he' hd']
   cases ad with
   | none => simp [Conv.bytesToString, strOf]
   | some a =>
     have hl := run_loadCells_list (P := P) E.w a [] (fun j v hj => by simp at hj)
     rw [run_bytesToString E.w a 0 c [] (by simpa using hl)]
     simp [strOf]
  ·obtain ⟨h1, h2⟩ := u8s_cells hn hrows
   rw [hux, run_convert_bytes_string E.w sr ds e' _ _ c hu he' hd']
   have hl := run_loadCells_list (P := P) E.w ⟨b, of, none⟩ (ns.map (Value.int .u8)) (fun j v hj => by
    rw [List.getElem?_map] at hj
    cases hnj : ns[j]? with
    | none => simp [hnj] at hj
    | some n =>
      simp only [hnj, Option.map_some, Option.some.injEq] at hj
      subst hj
      rw [add_lit']
      exact h2 j n hnj)
   rw [List.length_map, ← h1] at hl
   rw [run_bytesToString E.w _ _ c ns hl]
   rfl
def lf (P : Program) (ty : TypeId) : Option Nat :=
 match P.underlying ty with
 | some (.int _) => some 0
 | some .bool => some 1
 | some .string => some 2
 | _ => none
def eqFs (P : Program) (ty : TypeId) : Option (List (Nat × TypeId)) :=
 match P.underlying ty with
 | some (.struct fs) => if P.stoodInHeld ty = false ∧ (fs.toList.all fun f => f.name != "_") = true then some (fs.toList.map fun f => (f.offset, f.type)) else none
 | _ => none
def eqGd (P : Program) (ty : TypeId) : Bool := !P.eqGuardType P.depth ty
def eqL (g : Nat × TypeId → Option Bool) : List (Nat × TypeId) → Option Bool
 | [] => some true
 | f :: l => match g f, eqL g l with
   | some a, some b => some (a && b)
   | _, _ => none
def eqT (P : Program) : Nat → TypeId → TV → TV → Option Bool
 | 0, _, _, _ => none
 | d + 1, ty, x, y => match x, y with
   | .d (.int k a), .d (.int k' b) => if lf P ty = some 0 ∧ k = k' then some (a == b) else none
   | .d (.bool a), .d (.bool b) => if lf P ty = some 1 then some (a == b) else none
   | .d (.str a), .d (.str b) => if lf P ty = some 2 then some (a.toList == b.toList) else none
   | .agg vs, .agg ws => match eqFs P ty with
     | some fs => eqL (fun f => match partT P f.2 vs f.1, partT P f.2 ws f.1 with
       | some a, some b => eqT P d f.2 a b
       | _, _ => none) fs
     | none => none
   | _, _ => none
theorem lf_spec {ty : TypeId} : (lf P ty = some 0 → ∃ k, P.underlying ty = some (.int k)) ∧ (lf P ty = some 1 → P.underlying ty = some .bool) ∧ (lf P ty = some 2 → P.underlying ty = some .string) := by
 unfold lf
 split
 ·rename_i k h; exact ⟨fun _ => ⟨k, h⟩, fun e => by simp at e, fun e => by simp at e⟩
 ·rename_i h; exact ⟨fun e => by simp at e, fun _ => h, fun e => by simp at e⟩
 ·rename_i h; exact ⟨fun e => by simp at e, fun e => by simp at e, fun _ => h⟩
 ·exact ⟨fun e => by simp at e, fun e => by simp at e, fun e => by simp at e⟩
theorem eqT_ok : ∀ {d : Nat} {ty : TypeId} {x y : TV} {r : Bool}, eqT P d ty x y = some r → ∀ {E : En} {u u' : Value}, RelV E x u → RelV E y u' → ∀ D, d ≤ D → (Op.equalIn D ty u u').run P E.w = .ok r E.w
 | 0, _, _, _, _, h, _, _, _, _, _, _, _ => by simp [eqT] at h
 | d + 1, ty, x, y, r, h, E, u, u', hu, hu', D, hD => by
   obtain ⟨D, rfl⟩ : ∃ D', D = D' + 1 := ⟨D - 1, by omega⟩
   unfold eqT at h
   split at h
   ·split at h
    ·rename_i k a k' b hc
     simp only [Option.some.injEq] at h; subst h
     obtain ⟨h1, rfl⟩ := hc
     obtain ⟨q, hq⟩ := lf_spec.1 h1
     simp only [RelV, Rep] at hu hu'
     subst hu; subst hu'
     exact run_equalIn_int E.w D ty k q a b hq
    ·simp at h
   ·split at h
    ·rename_i hc
     simp only [Option.some.injEq] at h; subst h
     simp only [RelV, Rep] at hu hu'
     subst hu; subst hu'
     exact run_equalIn_bool' E.w D ty _ _ (lf_spec.2.1 hc)
    ·simp at h
   ·split at h
    ·rename_i hc
     simp only [Option.some.injEq] at h; subst h
     simp only [RelV, Rep] at hu hu'
     subst hu; subst hu'
     exact run_equalIn_string E.w D ty _ _ (lf_spec.2.2 hc)
    ·simp at h
   ·rename_i vs ws
    split at h
    ·rename_i fs hfs
     simp only [RelV] at hu hu'
     obtain ⟨us, rfl, hus⟩ := hu
     obtain ⟨us', rfl, hus'⟩ := hu'
     unfold eqFs at hfs
     split at hfs
     ·rename_i fs0 hund
      split at hfs
      ·rename_i hc
       simp only [Option.some.injEq] at hfs; subst hfs
       have hfo : P.fieldsOf ty = fs0 := by simp [Program.fieldsOf, hund]
       rw [run_equalIn_agg E.w D ty us us' (by rw [hfo]; exact hund) hc.1, hfo]
       have hnm := hc.2
       clear hund hc hfo
       generalize fs0.toList = l at hnm h
       induction l generalizing r with
       | nil => simp only [List.map_nil, eqL, Option.some.injEq] at h; subst h; simp [Op.eqFields]
       | cons f l ih =>
         simp only [List.all_cons, Bool.and_eq_true, bne_iff_ne, ne_eq] at hnm
         simp only [List.map_cons, eqL] at h
         split at h
         ·rename_i a b h1 h2
          simp only [Option.some.injEq] at h; subst h
          split at h1
          ·rename_i p q hp hq
           obtain ⟨v, g1, g2⟩ := partT_rel hp hus
           obtain ⟨v', g3, g4⟩ := partT_rel hq hus'
           have g5 := eqT_ok h1 g2 g4 D (by omega)
           have g6 := ih _ hnm.2 h2
           cases a
           ·simp [Op.eqFields, hnm.1, g1, g3, g5]
           ·simp [Op.eqFields, hnm.1, g1, g3, g5, g6]
          ·simp at h1
         ·simp at h
      ·simp at hfs
     ·simp at hfs
    ·simp at h
   ·simp at h
theorem eff_eqs {o : Oper} {t : S} {op : BinOp} {ty ty' : TypeId} {x y : Operand} {vs ws : List TV} {r : Bool} (ho : o.op = .binOp op ty x y ty') (hop : op = .eql ∨ op = .neq) (hg : eqGd P ty = true) (hx : ev t x = .agg vs) (hy : ev t y = .agg ws) (h : eqT P 4 ty (.agg vs) (.agg ws) = some r) :
  EffOK P A o t ⟨True, pl x ++ pl y, [], .d (.bool (if op = .eql then r else !r))⟩ :=
 .pure fun _ t' hr a E hi => by
  have hx' := ev_rel hi x
  rw [ev_eq (pl_left hr), hx] at hx'
  have hy' := ev_rel hi y
  rw [ev_eq (pl_right hr), hy] at hy'
  have hq := eqT_ok h hx' hy' 10000 (by omega)
  simp only [RelV] at hx' hy'
  obtain ⟨us, hux, hus⟩ := hx'
  obtain ⟨us', huy, hus'⟩ := hy'
  rw [hux, huy] at hq
  have hgd : P.eqGuardType P.depth ty = false := by simpa [eqGd] using hg
  rcases hop with rfl | rfl
  ·refine ⟨.bool r, ?_, by simp only [if_true, RelV, Rep]⟩
   simp only [execOp, ho, Sem.run_bind, hux, huy, run_eqGuard_agg E.w _ ty x y us us' hgd, Result.andThen_ok, run_eql_struct, hq, Sem.run_pure]
  ·refine ⟨.bool (!r), ?_, by simp [RelV, Rep]⟩
   simp only [execOp, ho, Sem.run_bind, hux, huy, run_eqGuard_agg E.w _ ty x y us us' hgd, Result.andThen_ok, run_neq_struct, hq, Sem.run_pure]
end
end Go.Tr

namespace Go.Tr
open Go
def mget : List (Int × D) → Int → Option D
 | [], _ => none
 | (k', d) :: es, k => if k = k' then some d else mget es k
def mput : List (Int × D) → Int → D → List (Int × D)
 | [], k, d => [(k, d)]
 | (k', d') :: es, k, d => if k = k' then (k, d) :: es else (k', d') :: mput es k d
theorem find_rel {E : En} {k : Int} {kd : IntKind} : ∀ {es : List (Int × D)} {l : List MapEntry} {i : Nat}, MapRel E es l →
  (mget es k = none ∧ Instr.findNow (.int kd) (.int .i64 k) l i = some none ∧ ∀ d u born, u.oneCell' = true → Rep E d u → MapRel E (mput es k d) (l ++ [⟨.int .i64 k, u, born⟩])) ∨
  ∃ d j a, mget es k = some d ∧ Instr.findNow (.int kd) (.int .i64 k) l i = some (some (i + j, a.val)) ∧ l[j]? = some a ∧ a.key = .int .i64 k ∧ a.val.oneCell' = true ∧ Rep E d a.val ∧
   ∀ d' u, u.oneCell' = true → Rep E d' u → MapRel E (mput es k d') (l.modify j fun e => { e with key := .int .i64 k, val := u })
 | [], l, i, h => by
   simp only [MapRel] at h
   subst h
   exact .inl ⟨rfl, rfl, fun d u born h1 h2 => ⟨_, [], rfl, rfl, h1, h2, rfl⟩⟩
 | (k', d) :: es, l, i, h => by
   simp only [MapRel] at h
   obtain ⟨a, l', rfl, h1, h2, h3, h4⟩ := h
   by_cases e : k = k'
   ·subst e
    refine .inr ⟨d, 0, a, by simp [mget], by simp [Instr.findNow, Instr.sameNow, h1], rfl, h1, h2, h3, fun d' u g1 g2 => ?_⟩
    simp only [mput, if_true, List.modify_zero_cons]
    exact ⟨_, l', rfl, rfl, g1, g2, h4⟩
   ·have hne : (k == k') = false := by simpa using e
    rcases find_rel (k := k) (kd := kd) (i := i + 1) h4 with ⟨g1, g2, g3⟩ | ⟨d2, j, b, g1, g2, g3, g4, g5, g6, g7⟩
    ·refine .inl ⟨by simp [mget, e, g1], by simp [Instr.findNow, Instr.sameNow, h1, hne, g2], fun d2 u born q1 q2 => ?_⟩
     simp only [mput, if_neg e]
     exact ⟨a, _, rfl, h1, h2, h3, g3 d2 u born q1 q2⟩
    ·refine .inr ⟨d2, j + 1, b, by simp [mget, e, g1], ?_, by simpa using g3, g4, g5, g6, fun d' u q1 q2 => ?_⟩
     ·simp [Instr.findNow, Instr.sameNow, h1, hne, g2]
      omega
     ·simp only [mput, if_neg e, List.modify_succ_cons]
      exact ⟨a, _, rfl, h1, h2, h3, g7 d' u q1 q2⟩
theorem find_none {k : Int} {kd : IntKind} : ∀ {l : List MapEntry} {i : Nat}, Instr.findNow (.int kd) (.int .i64 k) l i = some none → ∀ x ∈ l, x.key ≠ .int .i64 k
 | [], _, _, x, hx => by simp at hx
 | a :: l, i, h, x, hx => by
   intro e
   rcases List.mem_cons.1 hx with rfl | hx
   ·simp [Instr.findNow, Instr.sameNow, e] at h
   ·unfold Instr.findNow at h
    cases hs : Instr.sameNow (.int kd) (.int .i64 k) a.key with
    | none => simp [hs] at h
    | some b => cases b with
      | true => simp [hs] at h
      | false => simp only [hs] at h; exact find_none h x hx e
section
variable {P : Program} {A : Actv}
theorem InvE.newMap {t : S} {a : Act} {E : En} (h : InvE A t a E) {d : Nat} (hd : t (.o d) = .none) :
  ∃ E' : En, E'.w = E.w.alloc (.map #[] 0) ∧ InvE A (upd t (.o d) (.mp [])) a E' ∧ RelV E' (.mref d) (.map (some E.w.heap.size)) := by
 have hfree := h.h.item (.o d) (by simp)
 rw [hd] at hfree
 obtain ⟨hb0, hv0⟩ := hfree d rfl
 let E' : En := { w := E.w.alloc (.map #[] 0), St := E.St, blk := fun p => if p = .o d then some E.w.heap.size else E.blk p, val := E.val }
 have hold : ∀ b, b < E.w.heap.size → E'.w.heap[b]? = E.w.heap[b]? := fun b hb => heap_alloc_old E.w _ b hb
 have x : ExtA E E' := by
  refine ⟨fun _ _ h => h, fun b o hst => atW_of_block (hold b (h.h.stsz b o hst)), fun id b _ he => ?_, fun i b he => by simpa [E'] using he, fun i b he => by simpa [E'] using he, fun _ _ c v _ hv => ⟨c, v, hv, Nat.le_refl _, fun _ => rfl⟩⟩
  by_cases e : id = d
  ·subst e; rw [hb0] at he; simp at he
  ·simpa [E', e] using he
 have hown : E'.own (.o d) = some E.w.heap.size := by simp [En.own, E']
 have hownq : ∀ q, q ≠ .o d → E'.own q = E.own q := fun q hq => En.own_eq (by simp [E', hq]) (fun _ _ => rfl)
 have hH : HInv E' (upd t (.o d) (.mp [])) := by
  refine h.h.change (by simp) x (fun b o hst => .inl hst) (fun q hq => by simp [E', hq]) (fun id hid => rfl) (by simp [E']) (fun q b hq hb => hold b (h.h.size q b hb)) (fun b hb => ?_) ?_ (fun b o hst hb => ?_)
  ·rw [hown] at hb; simp at hb; subst hb; exact ⟨by simp [E'], .inr (Nat.le_refl _)⟩
  ·refine ⟨fun id hid => ?_, E.w.heap.size, #[], 0, by simp [E'], heap_alloc_new E.w _, rfl, MapKept.stamped_empty 0⟩
   simp only [Pl.o.injEq] at hid; subst hid; exact hv0
  ·rw [hown] at hb; simp at hb; subst hb
   exact absurd (h.h.stsz _ _ hst) (by omega)
 refine ⟨E', rfl, h.step hH x (h.fr.next rfl rfl rfl (by simp [E']) (fun b hb _ _ => hold b (Nat.lt_of_lt_of_le hb h.fr.size)) (fun i => by simp [E']) (fun id b hb => ?_) (fun _ _ h => h) (fun _ _ h => .inl h)) (fun k => upd_s (by simp) k), ?_⟩
 ·by_cases e : id = d
  ·subst e; rw [hown] at hb; simp at hb; subst hb; exact .inr (Nat.le_refl _)
  ·rw [hownq _ (by simpa using e)] at hb; exact .inl hb
 ·simp only [RelV]; exact ⟨E.w.heap.size, by simp [E'], rfl⟩
theorem eff_makeMap {o : Oper} {t : S} {ty d : Nat} (ho : o.op = .makeMap ty none) : EffOK P A o t ⟨t (.o d) = .none, [.o d], [(.o d, .mp [])], .mref d⟩ := fun hC t' hr a E hi => by
 have ht' : t' (.o d) = .none := (hr _ (by simp)).trans hC
 obtain ⟨E', hw, hinv, hrel⟩ := hi.newMap ht'
 refine ⟨_, _, E', ?_, .inl rfl, hinv, hrel⟩
 simp [execOp, ho, Instr.makeMap, hw]
theorem map_cur {t : S} {a : Act} {E : En} (hi : InvE A t a E) {id : Nat} {es : List (Int × D)} (ht : t (.o id) = .mp es) : E.val id = none ∧ ∃ b l clock, E.blk (.o id) = some b ∧ E.w.heap[b]? = some (.map l clock) ∧ MapRel E es l.toList ∧ MapKept.Stamped l clock := by
 have := hi.h.item (.o id) (by simp)
 rw [ht] at this
 exact ⟨this.1 id rfl, this.2⟩
theorem InvE.mapStep {t : S} {a : Act} {E : En} (hi : InvE A t a E) {id b : Nat} {es es' : List (Int × D)} {l l' : Array MapEntry} {clock clock' : Nat} (ht : t (.o id) = .mp es) (hb : E.blk (.o id) = some b) (hg : E.w.heap[b]? = some (.map l clock)) (hm : MapRel E es' l'.toList) (hs : MapKept.Stamped l' clock') :
  ∃ E' : En, E'.w = { E.w with heap := E.w.heap.setIfInBounds b (.map l' clock') } ∧ ExtA E E' ∧ InvE A (upd t (.o id) (.mp es')) a E' := by
 obtain ⟨hv0, _⟩ := map_cur hi ht
 have hlt : b < E.w.heap.size := (Array.getElem?_eq_some_iff.1 hg).1
 have hownp : E.own (.o id) = some b := by simp [En.own, hb]
 let E' : En := { E with w := { E.w with heap := E.w.heap.setIfInBounds b (.map l' clock') } }
 have hoth : ∀ b', b' ≠ b → E'.w.heap[b']? = E.w.heap[b']? := fun b' hne => by simp [E', Array.getElem?_setIfInBounds, show ¬ b = b' from fun e => hne e.symm]
 have hst : ∀ b' o', E.St b' o' → b' ≠ b := fun b' o' h e => by
  subst e
  obtain ⟨e2, k2, es2, h1, _⟩ := hi.h.sep _ o' h _ hownp
  rw [ht] at h1; simp at h1
 have x : ExtA E E' := ⟨fun _ _ h => h, fun b' o' h => atW_of_block (hoth b' (hst b' o' h)), fun _ _ _ h => h, fun _ _ h => h, fun _ _ h => h, fun _ _ c v _ h => ⟨c, v, h, Nat.le_refl _, fun _ => rfl⟩⟩
 have hown : ∀ q, E'.own q = E.own q := fun q => En.own_eq rfl (fun _ _ => rfl)
 have hH : HInv E' (upd t (.o id) (.mp es')) := by
  refine hi.h.change (by simp) x (fun b o h => .inl h) (fun _ _ => rfl) (fun _ _ => rfl) (by simp [E']) (fun q b' hq hb' => hoth b' fun e => hq (by subst e; exact hi.h.inj _ _ _ hb' hownp)) (fun b' hb' => ?_) ?_ (fun b' o' hs hb' => ?_)
  ·rw [hown] at hb'; exact ⟨by simpa [E'] using hi.h.size _ _ hb', .inl hb'⟩
  ·exact ⟨fun j hj => by simp only [Pl.o.injEq] at hj; subst hj; exact hv0, b, l', clock', hb, by simp [E', hlt], hm.ext x.r, hs⟩
  ·rw [hown, hownp] at hb'; simp only [Option.some.injEq] at hb'
   exact absurd hb'.symm (hst b' o' hs)
 refine ⟨E', rfl, x, hi.step hH x (hi.fr.next rfl rfl rfl (by simp [E']) (fun b' h1 _ h3 => hoth b' fun e => ?_) (fun _ => rfl) (fun j b' h => .inl (by rwa [hown] at h)) (fun _ _ h => h) (fun _ _ h => .inl h)) (fun k => upd_s (by simp) k)⟩
 subst e
 exact (hi.fr.new id b' hownp).elim (fun h => by omega) (fun ⟨j, h⟩ => h3 j h)
def lkV (ck : Bool) (m : Option D) (z : TV) : TV :=
 match ck with
 | true => .tup [match m with | some d => .d d | none => z, .d (.bool m.isSome)]
 | false => match m with | some d => .d d | none => z
theorem eff_lookup {o : Oper} {t : S} {ty kt e : TypeId} {x ix : Operand} {ck : Bool} {id : Nat} {es : List (Int × D)} {k : Int} {kd : IntKind} {z : Value} (ho : o.op = .lookup ty x ix ck) (hm : P.underlying ty = some (.map kt e)) (hk : P.underlying kt = some (.int kd)) (hz : zrO P e = some z)
  (hx : ev t x = .mref id) (ht : t (.o id) = .mp es) (hix : ev t ix = .d (.int .i64 k)) : EffOK P A o t ⟨True, pl x ++ (pl ix ++ [.o id]), [], lkV ck (mget es k) (ofCell z)⟩ :=
 .pure fun _ t' hr a E hi => by
  have hx' : ev t' x = .mref id := (ev_eq (pl_left hr)).trans hx
  have hix' : ev t' ix = .d (.int .i64 k) := (ev_eq (pl_left (pl_right hr))).trans hix
  have ht' : t' (.o id) = .mp es := (pl_right (pl_right hr) _ (by simp)).trans ht
  have h1 := ev_rel hi x
  rw [hx'] at h1
  simp only [RelV] at h1
  obtain ⟨b, hb, hu⟩ := h1
  have h2 := ev_rel hi ix
  rw [hix'] at h2
  simp only [RelV, Rep] at h2
  obtain ⟨_, b', l, clock, hb', hg, hrel, _⟩ := map_cur hi ht'
  rw [hb] at hb'
  simp only [Option.some.injEq] at hb'
  subst hb'
  have hzero : (zeroValue e).run P E.w = .ok z E.w := by
   unfold zrO at hz
   cases hinf : P.info? e with
   | none => simp [hinf] at hz
   | some inf =>
     simp only [hinf, Option.bind_some] at hz
     simp [zeroValue, typeInfo, hinf, hz]
  have hck : (Instr.checkKey l.isEmpty 10000 kt (.int .i64 k)).run P E.w = .ok () E.w := by
   unfold Instr.checkKey
   simp [Sem.run_bind, run_underlying hk]
  rcases find_rel (k := k) (kd := kd) (i := 0) hrel with ⟨g1, g2, _⟩ | ⟨d, j, a', g1, g2, _, _, _, g6, _⟩
  ·refine ⟨match ck with | true => .tuple #[z, .bool false] | false => z, ?_, ?_⟩
   ·cases ck <;> simp [execOp, ho, hu, h2, Instr.lookup, Sem.run_bind, run_underlying hm, run_underlying hk, MapKept.run_getObj_map hg, hck, Instr.findKey, g2, hzero]
   ·rw [g1]
    cases ck with
    | true =>
      simp only [lkV, RelV]
      exact ⟨#[z, .bool false], rfl, by simp only [RelVs]; exact ⟨_, _, rfl, ofCell_rel E z, _, _, rfl, by simp [RelV, Rep], rfl⟩⟩
    | false => simp only [lkV]; exact ofCell_rel E z
  ·refine ⟨match ck with | true => .tuple #[a'.val, .bool true] | false => a'.val, ?_, ?_⟩
   ·cases ck <;> simp [execOp, ho, hu, h2, Instr.lookup, Sem.run_bind, run_underlying hm, run_underlying hk, MapKept.run_getObj_map hg, hck, Instr.findKey, g2, hzero]
   ·rw [g1]
    cases ck with
    | true =>
      simp only [lkV, RelV]
      exact ⟨#[a'.val, .bool true], rfl, by simp only [RelVs]; exact ⟨_, _, rfl, by simpa only [RelV] using g6, _, _, rfl, by simp [RelV, Rep], rfl⟩⟩
    | false => simp only [lkV, RelV]; exact g6
theorem eff_mapUpdate {o : Oper} {t : S} {ty kt e : TypeId} {x ix y : Operand} {id : Nat} {es : List (Int × D)} {k : Int} {kd : IntKind} {d : D} (ho : o.op = .mapUpdate ty x ix y) (hm : P.underlying ty = some (.map kt e)) (hk : P.underlying kt = some (.int kd))
  (hx : ev t x = .mref id) (ht : t (.o id) = .mp es) (hix : ev t ix = .d (.int .i64 k)) (hy : ev t y = .d d) : EffOK P A o t ⟨True, pl x ++ (pl ix ++ (pl y ++ [.o id])), [(.o id, .mp (mput es k d))], .junk⟩ := fun _ t' hr a E hi => by
 have hx' : ev t' x = .mref id := (ev_eq (pl_left hr)).trans hx
 have hix' : ev t' ix = .d (.int .i64 k) := (ev_eq (pl_left (pl_right hr))).trans hix
 have hy' : ev t' y = .d d := (ev_eq (pl_left (pl_right (pl_right hr)))).trans hy
 have ht' : t' (.o id) = .mp es := (pl_right (pl_right (pl_right hr)) _ (by simp)).trans ht
 have h1 := ev_rel hi x
 rw [hx'] at h1
 simp only [RelV] at h1
 obtain ⟨b, hb, hu⟩ := h1
 have h2 := ev_rel hi ix
 rw [hix'] at h2
 simp only [RelV, Rep] at h2
 have h3 := ev_rel hi y
 rw [hy'] at h3
 have hone : (a.eval y).oneCell' = true := h3.one (by rfl)
 simp only [RelV] at h3
 obtain ⟨_, b', l, clock, hb', hg, hrel, hstm⟩ := map_cur hi ht'
 rw [hb] at hb'
 simp only [Option.some.injEq] at hb'
 subst hb'
 have hck : (Instr.checkKey false 10000 kt (.int .i64 k)).run P E.w = .ok () E.w := by
  unfold Instr.checkKey
  simp [Sem.run_bind, run_underlying hk]
 rcases find_rel (k := k) (kd := kd) (i := 0) hrel with ⟨_, g2, g3⟩ | ⟨d', j, a', _, g2, g4, g5, _, _, g7⟩
 ·obtain ⟨E', hw', x', hinv⟩ := hi.mapStep (l' := l.push ⟨.int .i64 k, a.eval y, clock⟩) (clock' := clock + 1) ht' hb hg (by rw [Array.toList_push]; exact g3 d (a.eval y) clock hone h3) (MapKept.stamped_push hstm (find_none g2))
  refine ⟨.skip, undef, E', ?_, .inr ⟨rfl, rfl⟩, hinv, by simp only [RelV]⟩
  simp [execOp, ho, hu, h2, Instr.mapUpdate, Sem.run_bind, run_underlying hm, run_underlying hk, MapKept.run_getObj_map hg, MapKept.run_setObj_map _ hg, hck, Instr.findKey, g2, hw']
 ·obtain ⟨E', hw', x', hinv⟩ := hi.mapStep (l' := l.modify j fun e => { e with key := .int .i64 k, val := a.eval y }) (clock' := clock) ht' hb hg (by rw [Array.toList_modify]; exact g7 d (a.eval y) hone h3) (MapKept.stamped_modify hstm j _ (fun _ _ => rfl) (fun e _ he => by rw [show l[j]? = some a' by simpa using g4] at he; simp only [Option.some.injEq] at he; subst he; exact g5.symm))
  refine ⟨.skip, undef, E', ?_, .inr ⟨rfl, rfl⟩, hinv, by simp only [RelV]⟩
  have g4' : l[j]? = some a' := by simpa using g4
  have hst : (Instr.keyThatStays (.int .i64 k) (.int .i64 k)).run P E.w = .ok (.int .i64 k) E.w := by
   simp [Instr.keyThatStays, Instr.sameBits]
  simp [execOp, ho, hu, h2, Instr.mapUpdate, Sem.run_bind, run_underlying hm, run_underlying hk, MapKept.run_getObj_map hg, MapKept.run_setObj_map _ hg, hck, Instr.findKey, g2, g4', g5, hst, hw']
end
end Go.Tr
