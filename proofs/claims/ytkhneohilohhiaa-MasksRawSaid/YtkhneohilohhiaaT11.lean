/-
  Laws of the layer between the model and plain data (states, operations, calls, loops); none has a condition beyond those that stand in its own statement.
-/
import Derived.Test.YtkhneohilohhiaaT10
set_option linter.unusedSimpArgs false
namespace Go.Tr
open Go

section
variable {P : Program} {A : Actv}

theorem fillT_seq {k : Nat} : ∀ (vs : List TV) (i : Nat) (dn : List TV), dn.length = i * k → (∀ v ∈ vs, v.cells.length = k) →
    fillT (fun i => some (i * k, k)) (dn ++ List.replicate (vs.length * k) .junk) (vs.zipIdx i |>.map fun x => (x.2, x.1)) = some (dn ++ vs.flatMap TV.cells)
  | [], i, dn, _, _ => by simp [fillT]
  | v :: vs, i, dn, hd, hv => by
    have hvk : v.cells.length = k := hv v (by simp)
    simp only [List.zipIdx_cons, List.map_cons, fillT, hvk, ne_eq, not_true_eq_false, false_or]
    rw [if_neg (by simp only [List.length_append, List.length_replicate, List.length_cons, hd, hvk, Nat.add_mul]; omega)]
    have : setAt (dn ++ List.replicate ((vs.length + 1) * k) .junk) (i * k) v.cells = (dn ++ v.cells) ++ List.replicate (vs.length * k) .junk := by
      unfold setAt
      rw [← hd, List.take_left, List.drop_append, List.drop_eq_nil_of_le (by omega)]
      simp [hvk, Nat.add_mul, List.append_assoc]
    simp only [List.length_cons]
    rw [this, fillT_seq vs (i + 1) (dn ++ v.cells) (by simp [hd, hvk, Nat.add_mul]) (fun x hx => hv x (by simp [hx]))]
    simp [List.append_assoc]

/-- new stable memory: a literal -/
theorem InvE.newLit {t : S} {a : Act} {E : En} (hi : InvE A t a E) {us : Array Value} {ty : TypeId} :
    ∃ E' : En, E'.w = E.w.alloc (.cells us ty) ∧ ExtA E E' ∧ InvE A t a E' ∧ (∀ j, j < us.size → E'.St E.w.heap.size j) := by
  let E' : En := { E with w := E.w.alloc (.cells us ty), St := fun b o => E.St b o ∨ (b = E.w.heap.size ∧ o < us.size) }
  have hold : ∀ b, b < E.w.heap.size → E'.w.heap[b]? = E.w.heap[b]? := fun b hb => heap_alloc_old E.w _ b hb
  have x : ExtA E E' := ⟨fun _ _ h => .inl h, fun b o hst => World.cell?_of_block (hold b (hi.h.stsz b o hst)), fun _ _ _ h => h, fun _ _ h => h, fun _ _ h => h, fun _ _ c u _ hu => ⟨c, u, hu, Nat.le_refl _, fun _ => rfl⟩⟩
  have hH : HInv E' t := hi.h.more x rfl rfl (by simp [E']) hold (fun b o hst => hst.imp (fun h => h) fun ⟨h1, h2⟩ => ⟨by simp [E', h1], fun p hp => by
    have := hi.h.size p b hp; omega⟩)
  exact ⟨E', rfl, x, hi.step hH x (hi.fr.next rfl rfl rfl (by simp [E']) (fun b hb _ => hold b (Nat.lt_of_lt_of_le hb hi.fr.size)) (fun _ => rfl) (fun _ _ h => .inl h) (fun _ _ h => .inl h) (fun b o h => h.imp (fun h => h) fun ⟨h1, _⟩ => by have := hi.fr.size; omega)) (fun _ => rfl),
    fun j hj => .inr ⟨rfl, hj⟩⟩

theorem flat_get {k : Nat} : ∀ {vs : List TV} (_ : ∀ v ∈ vs, v.cells.length = k) {i : Nat} {v : TV} (_ : vs[i]? = some v) {j : Nat} {tv : TV} (_ : v.cells[j]? = some tv), (vs.flatMap TV.cells)[i * k + j]? = some tv
  | [], _, _, _, h, _, _, _ => by simp at h
  | w :: vs, hk, 0, v, h, j, tv, hj => by
    simp at h; subst h
    rw [List.flatMap_cons, List.getElem?_append_left (by simp; exact (List.getElem?_eq_some_iff.1 hj).1)]
    simpa using hj
  | w :: vs, hk, i + 1, v, h, j, tv, hj => by
    have := flat_get (vs := vs) (fun v hv => hk v (by simp [hv])) (i := i) (by simpa using h) hj
    have hw : w.cells.length = k := hk w (by simp)
    rw [List.flatMap_cons, List.getElem?_append_right (by rw [hw, Nat.add_mul]; omega), hw, Nat.add_mul, Nat.one_mul, show i * k + k + j - k = i * k + j by omega]
    exact this

theorem toDs_flat {vs : List TV} {xss : List (List D)} (h : toDss (vs.map TV.cells) = some xss) {k : Nat} (hk : ∀ v ∈ vs, v.cells.length = k) {i : Nat} {e : List D} (he : xss[i]? = some e) {j : Nat} {x : D} (hx : e[j]? = some x) :
    ∃ tv, (vs.flatMap TV.cells)[i * k + j]? = some tv ∧ toD tv = some x := by
  obtain ⟨hL, hg⟩ := toDss_get h
  obtain ⟨cs, h1, h2⟩ := hg i e he
  obtain ⟨h3, h4⟩ := toDs_get h2
  obtain ⟨tv, h5, h6⟩ := h4 j x hx
  simp only [List.getElem?_map, Option.map_eq_some_iff] at h1
  obtain ⟨v, h7, rfl⟩ := h1
  exact ⟨tv, flat_get hk h7 h5, h6⟩

theorem run_buildSlice {ty e k : Nat} {z : Value} (he : slE P ty = some e) (hk : szO P e = some k) (hz : zrO P e = some z) {vs : List TV} {us : List Value} {E : En} (hr : RelVs E vs us) (hl : ∀ v ∈ vs, v.cells.length = k) (h1 : ∀ v ∈ vs, ∀ c ∈ v.cells, c.one = true)
    (hsmall : vs.length * k ≤ 16777216) :
    ∃ ru : Array Value, (Instr.buildSlice ty vs.length ((us.zipIdx.map fun x => (x.2, x.1)).toArray)).run P E.w = .ok (.slice (some ⟨E.w.heap.size, 0, none⟩) vs.length vs.length) (E.w.alloc (.cells ru e)) ∧
      ru.size = vs.length * k ∧ RelVs E (vs.flatMap TV.cells) ru.toList := by
  unfold slE at he
  split at he
  rotate_left
  · simp at he
  rename_i e' hu
  simp only [Option.some.injEq] at he; subst he
  unfold szO at hk; unfold zrO at hz
  cases hinf : P.info? e' with
  | none => simp [hinf] at hk
  | some inf =>
  simp only [hinf, Option.map_some, Option.some.injEq, Option.bind_some] at hk hz
  have hfill := fillT_seq vs 0 [] (by simp) hl
  simp only [List.nil_append] at hfill
  -- the cells to begin with
  have hbase : ∀ b : Array Value, b.size = vs.length * k → RelVs E (List.replicate (vs.length * k) .junk) b.toList := fun b hb =>
    RelVs.of_get (by simp [hb]) fun i t u ht _ => by
      simp [List.getElem?_replicate] at ht
      obtain ⟨_, rfl⟩ := ht
      simp only [RelV]
  have go : ∀ b : Array Value, b.size = vs.length * k → ∃ ru, Instr.fill (fun i => some (i * k, k)) b (us.zipIdx.map fun x => (x.2, x.1)) = some ru ∧ RelVs E (vs.flatMap TV.cells) ru.toList := fun b hb => by
    refine fill_rel (qs := us.zipIdx.map fun x => (x.2, x.1)) hfill (fun p hp c hc => ?_) (hbase b hb) (by simp [hr.length]) (fun i p q hp hq => ?_)
    · simp only [List.mem_map] at hp
      obtain ⟨x, hx, rfl⟩ := hp
      exact h1 x.1 (by
        have := List.mem_zipIdx hx
        exact List.fst_mem_of_mem_zipIdx hx) c hc
    · simp only [List.getElem?_map, List.getElem?_zipIdx, Option.map_eq_some_iff, Nat.zero_add] at hp hq
      obtain ⟨x, ⟨v, h2, rfl⟩, rfl⟩ := hp
      obtain ⟨y, ⟨u, h3, rfl⟩, rfl⟩ := hq
      refine ⟨rfl, ?_⟩
      obtain ⟨u', h4, h5⟩ := hr.get h2
      rw [h3] at h4; simp only [Option.some.injEq] at h4; subst h4
      exact h5
  have hlenflat : (vs.flatMap TV.cells).length = vs.length * k := by
    clear hfill hbase go hr hsmall h1
    induction vs with
    | nil => simp
    | cons v vs ih => simp [hl v (by simp), ih (fun x hx => hl x (by simp [hx])), Nat.add_mul]; omega
  have hns : ¬ (16777216 < vs.length * k) := by omega
  by_cases h0 : vs.length * k = 0
  · obtain ⟨ru, h2, h3⟩ := go ((Array.range (vs.length * k)).map ((#[] : Array Value)[· % (#[] : Array Value).size]!)) (by simp)
    refine ⟨ru, ?_, by have := h3.length; rw [hlenflat] at this; simpa using this, h3⟩
    simp only [Instr.buildSlice, Sem.run_bind, run_underlying hu, Result.andThen_ok, sizeOf, typeInfo, run_program, hinf, Sem.run_pure, hk, gt_iff_lt, Nat.reducePow, hns, if_false, if_pos h0, newRow, run_newObj, h2, pure_bind]
    rfl
  · obtain ⟨ru, h2, h3⟩ := go ((Array.range (vs.length * k)).map (z.cells[· % z.cells.size]!)) (by simp)
    refine ⟨ru, ?_, by have := h3.length; rw [hlenflat] at this; simpa using this, h3⟩
    simp only [Instr.buildSlice, Sem.run_bind, run_underlying hu, Result.andThen_ok, sizeOf, typeInfo, run_program, hinf, Sem.run_pure, hk, gt_iff_lt, Nat.reducePow, hns, if_false, h0, zeroValue, hz, newRow, run_newObj, h2, pure_bind]
    rfl

def seqParts (ps : List (Nat × Operand)) (n : Nat) : Bool := (ps.map (·.1)) == List.range n

theorem parts_zip {α : Type} (f : Operand → α) : ∀ (ps : List (Nat × Operand)) (i : Nat), ps.map (·.1) = List.range' i ps.length → (ps.map fun x => (x.1, f x.2)) = ((ps.map fun x => f x.2).zipIdx i).map fun x => (x.2, x.1)
  | [], _, _ => rfl
  | p :: ps, i, h => by
    simp only [List.map_cons, List.length_cons, List.range'_succ, List.cons.injEq] at h
    simp only [List.map_cons, List.zipIdx_cons, List.cons.injEq]
    exact ⟨by rw [h.1], parts_zip f ps (i + 1) h.2⟩

/-- []T{..}: plain data -/
theorem eff_buildSlice {o : Oper} {t : S} {ty e k n : Nat} {ps : List (Nat × Operand)} {z : Value} {xss : List (List D)} (ho : o.op = .buildSlice ty n ps.toArray) (he : slE P ty = some e) (hk : szO P e = some k) (hz : zrO P e = some z)
    (hseq : seqParts ps n = true) (hx : toDss (ps.map fun x => (ev t x.2).cells) = some xss) :
    EffOK P A o t ⟨(∀ e ∈ ps.map (fun x => (ev t x.2).cells), e.length = k ∧ ∀ c ∈ e, c.one = true) ∧ n * k ≤ 16777216, ps.flatMap (fun x => pl x.2), [], .d (.sl xss)⟩ := fun ⟨hC, hsm⟩ t' hr a E hi => by
  have hseq' : ps.map (·.1) = List.range n := by simpa [seqParts] using hseq
  have hn : ps.length = n := by have := congrArg List.length hseq'; simpa using this
  rw [List.range_eq_range', ← hn] at hseq'
  have hev : (ps.map fun x => ev t' x.2) = ps.map fun x => ev t x.2 := by
    have := parts_eq hr
    exact List.map_congr_left fun x hx => by
      refine ev_eq fun p hp => hr p (List.mem_flatMap.2 ⟨x, hx, hp⟩)
  let vs := ps.map fun x => ev t x.2
  let us := ps.map fun x => a.eval x.2
  have hrel : RelVs E vs us := by
    have := evs_rel hi (ps.map (·.2))
    simp only [List.map_map] at this
    have h2 : (List.map (ev t' ∘ fun x => x.2) ps) = vs := hev
    rw [h2] at this
    exact this
  have hCm : ∀ v ∈ vs, v.cells.length = k ∧ ∀ c ∈ v.cells, c.one = true := fun v hv => by
    simp only [vs, List.mem_map] at hv
    obtain ⟨x, hx, rfl⟩ := hv
    exact hC _ (List.mem_map.2 ⟨x, hx, rfl⟩)
  have hvl : vs.length = n := by simp [vs, hn]
  obtain ⟨ru, hrun, hsz, hrel2⟩ := run_buildSlice (P := P) he hk hz hrel (fun v hv => (hCm v hv).1) (fun v hv => (hCm v hv).2) (by rw [hvl]; exact hsm)
  obtain ⟨E', hw, x, hinv, hst⟩ := hi.newLit (us := ru) (ty := e)
  have hxx : toDss (vs.map TV.cells) = some xss := by
    rw [← hx]; simp [vs, Function.comp_def]
  obtain ⟨hxl, hxg⟩ := toDss_get hxx
  refine ⟨_, .slice (some ⟨E.w.heap.size, 0, none⟩) n n, E', ?_, .inl rfl, hinv, ?_⟩
  · have hz2 := parts_zip (fun x => a.eval x) ps 0 hseq'
    simp only [execOp, ho, List.map_toArray, hz2, Sem.run_bind, hw]
    rw [← hvl, hrun]
    rfl
  · simp only [RelV, Rep]
    refine .inr ⟨E.w.heap.size, 0, n, k, by rw [hxl]; simp [hvl], by rw [hxl]; simp [hvl], RepRows.of_get fun i el hel => ?_⟩
    have hil : i < n := by have := (List.getElem?_eq_some_iff.1 hel).1; rw [hxl] at this; simpa [hvl] using this
    have hmul : i * k + k ≤ n * k := by
      have : (i + 1) * k ≤ n * k := Nat.mul_le_mul_right k hil
      rwa [Nat.add_mul, Nat.one_mul] at this
    have hek : el.length = k := by
      obtain ⟨cs, h1, h2⟩ := hxg i el hel
      rw [(toDs_get h2).1]
      simp only [List.getElem?_map, Option.map_eq_some_iff] at h1
      obtain ⟨v, h3, rfl⟩ := h1
      exact (hCm v (List.mem_of_getElem? h3)).1
    refine ⟨hek, RepCells.of_get fun j xx hj => ?_⟩
    have hjk : j < k := by rw [← hek]; exact (List.getElem?_eq_some_iff.1 hj).1
    obtain ⟨tv, h4, h5⟩ := toDs_flat hxx (fun v hv => (hCm v hv).1) hel hj
    obtain ⟨u, h6, h7⟩ := hrel2.get h4
    refine ⟨hst _ (by rw [hsz, hvl]; omega), u, ?_, (toD_rel h5 h7).up x⟩
    rw [hw, cell_heap (heap_alloc_new E.w _)]
    simpa using h6

end
end Go.Tr
