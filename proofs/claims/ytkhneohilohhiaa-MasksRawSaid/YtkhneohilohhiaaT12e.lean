/-
  Laws of the layer between the model and plain data (states, operations, calls, loops); none has a condition beyond those that stand in its own statement.
-/
import Derived.Test.YtkhneohilohhiaaT12d
set_option linter.unusedSimpArgs false
namespace Go.Tr
open Go

def dLen (k : Nat) (ys : List (List D)) : Prop := ∀ e ∈ ys, e.length = k
section
variable {P : Program} {A : Actv}
/-- s[:h:h] of plain data: no room behind it -/
theorem eff_slice3 {o : Oper} {t : S} {ty e k : Nat} {x hi mx : Operand} {xs : List (List D)} {kh km : IntKind} {h m : Int} (ho : o.op = .slice ty x none (some hi) (some mx)) (he : slE P ty = some e) (hk : szO P e = some k) (hx : ev t x = .d (.sl xs))
    (hh : ev t hi = .d (.int kh h)) (hm : ev t mx = .d (.int km m)) : EffOK P A o t ⟨(0 ≤ h ∧ h ≤ xs.length ∧ m = h) ∧ ∀ e ∈ xs, e.length = k, pl x ++ (pl hi ++ pl mx), [], .sx (xs.take h.toNat)⟩ :=
  .pure fun ⟨⟨hC1, hC2, hC3⟩, hlen⟩ t' hr a E hin => by
    subst hC3
    have hx' := ev_rel hin x
    rw [ev_eq (pl_left hr), hx] at hx'
    have hhi := ev_rel hin hi
    rw [ev_eq (pl_left (pl_right hr)), hh] at hhi
    have hmx := ev_rel hin mx
    rw [ev_eq (pl_right (pl_right hr)), hm] at hmx
    simp only [RelV, Rep] at hhi hmx
    unfold slE at he
    split at he
    rotate_left
    · simp at he
    rename_i e' hu
    simp only [Option.some.injEq] at he; subst he
    unfold szO at hk
    cases hinf : P.info? e' with
    | none => simp [hinf] at hk
    | some inf =>
    simp only [hinf, Option.map_some, Option.some.injEq] at hk
    obtain ⟨n, rfl⟩ : ∃ n : Nat, m = n := ⟨m.toNat, by omega⟩
    have hbd : ∀ len c : Nat, n ≤ c → (Instr.sliceBounds true len c none (some (.int kh n)) (some (.int km n))).run P E.w = .ok (0, n, n) E.w := fun len c hc => by
      have : (n : Int) ≤ (c : Int) := by omega
      have h0 : (0 : Int) ≤ (n : Int) := by omega
      simp only [Instr.sliceBounds, Instr.sliceBound, asIntOf, Sem.run_bind, Sem.run_pure, Result.andThen_ok, Sem.run_ite, h0, this, and_self, if_true, pure_bind, Int.toNat_natCast, Int.le_refl]
    simp only [RelV, Rep] at hx'
    simp only [Int.toNat_natCast] at hC2 ⊢
    have htl : (xs.take n).length = n := by simp; omega
    rcases hx' with ⟨h0, ad, c, hux⟩ | ⟨b, of, c, k', hux, hcc, hrows⟩
    · have hn0 : n = 0 := by omega
      subst hn0
      refine ⟨.slice ad 0 0, ?_, ?_⟩
      · simp only [execOp, ho, Instr.sliceAt, Sem.run_bind, run_underlying hu, Result.andThen_ok, hux, Option.map_none, Option.map_some, Instr.slice, hhi, hmx, hbd _ _ (Nat.zero_le _), sizeOf, typeInfo, run_program, hinf, Sem.run_pure, hk, Nat.sub_zero, if_true]
      · simp only [RelV, Rep]
        exact ⟨.inl ⟨by simp, _, _, rfl⟩, ad, by simp⟩
    · refine ⟨.slice (some ⟨b, of, none⟩) n n, ?_, ?_⟩
      · have hadd : (some (⟨b, of, none⟩ : Addr)).map (·.add (0 * k)) = some ⟨b, of, none⟩ := by simp [add_lit']
        simp only [execOp, ho, Instr.sliceAt, Sem.run_bind, run_underlying hu, Result.andThen_ok, hux, Option.map_none, Option.map_some, Instr.slice, hhi, hmx, hbd _ c (by omega), sizeOf, typeInfo, run_program, hinf, Sem.run_pure, hk, Nat.sub_zero]
        simp [add_lit']
      · simp only [RelV, Rep]
        refine ⟨?_, some ⟨b, of, none⟩, by rw [htl]⟩
        by_cases hz : n = 0
        · exact .inl ⟨by omega, _, _, by rw [hz]⟩
        · refine .inr ⟨b, of, n, k', by rw [htl], by omega, RepRows.of_get fun i el hel => ?_⟩
          have hel' : xs[i]? = some el := by
            rw [List.getElem?_take] at hel
            split at hel
            · exact hel
            · simp at hel
          exact hrows.get hel'

/-- append onto such a slice: a row of the activation's own -/
theorem eff_append_sx {o : Oper} {t : S} {x y : Operand} {sty : TypeId} {d e k b : Nat} {xs : List (List D)} {ys : List (List TV)} {rp : List Pl} {z : Value}
    (ho : o.op = .call { callee := .builtin .append, args := #[x, y], argTypes := #[sty, sty] }) (hx : ev t x = .sx xs) (hs : Src t (ev t y) rp ys)
    (he : slE P sty = some e) (hk : szO P e = some k) (hb : byO P e = some b) (hz : zrO P e = some z) (hzs : (zcells z).length = k) (_hk0 : 0 < k) :
    EffOK P A o t ⟨(t (.o d) = .none ∧ dLen k xs) ∧ 0 < ys.length ∧ appOK k b xs.length ys, pl x ++ (pl y ++ (.o d :: rp)), [(.o d, .row e k (dd xs ++ ys) false)], .oref d (xs.length + ys.length)⟩ := fun ⟨⟨hd, hxl0⟩, hpos, hlen, hroom, hroom2⟩ t' hr a E hi => by
  have hxl : ∀ e ∈ dd xs, e.length = k := fun e he => by
    simp only [dd, List.mem_map] at he
    obtain ⟨e0, h0, rfl⟩ := he
    simpa using hxl0 e0 h0
  have hx' := ev_rel hi x
  rw [ev_eq (pl_left hr), hx] at hx'
  simp only [RelV] at hx'
  obtain ⟨hx1, ad1, hux⟩ := hx'
  have hy' := ev_rel hi y
  rw [ev_eq (pl_left (pl_right hr))] at hy'
  have hr3 := pl_right (pl_right hr)
  have hd' : t' (.o d) = .none := (hr3 _ (by simp)).trans hd
  obtain ⟨ad, c, news, hu, hnl, hrow, hone, hsrc⟩ := hs.rel hlen (fun p hp => hr3 p (by simp [hp])) hi hy'
  obtain ⟨ad2, c2, olds, hu2, hol, hrow2, _, hsrc2⟩ := (Src.sl (t := t') xs).rel hxl (fun p hp => by simp at hp) hi (u := a.eval x) (by simp only [RelV]; exact hx1)
  have hxn : (xs.map (·.map TV.d)).length = xs.length := by simp
  rw [hxn] at hol hu2 hsrc2
  have had : ad2 = ad1 := by rw [hux] at hu2; simp only [Value.slice.injEq] at hu2; exact hu2.1.symm
  subst had
  rcases hsrc with h0 | ⟨a0, rfl, hcells⟩
  · omega
  unfold slE at he
  split at he
  rotate_left
  · simp at he
  rename_i e' hun
  simp only [Option.some.injEq] at he
  subst he
  unfold szO at hk; unfold byO at hb; unfold zrO at hz
  cases hinf : P.info? e' with
  | none => simp [hinf] at hk
  | some inf =>
  simp only [hinf, Option.map_some, Option.some.injEq, Option.bind_some] at hk hb hz
  subst hk hb
  have hzc : z.cells.size = inf.size := by rw [← hzs, zcells_eq]; simp
  let cap := grownCap E.w (xs.length + ys.length) xs.length e'
  let w' := E.w.drew.alloc (.cells (olds.toArray ++ news.toArray ++ Builtin.zeroCells z.cells (cap - (xs.length + ys.length))) e')
  have hge : xs.length + ys.length ≤ cap := grownCap_ge E.w _ _ e'
  have hcm : cap ≤ maxLen := grownCap_le_maxLen E.w _ _ e' (by simp only [maxLen]; omega)
  have hrun : (Builtin.append_ #[sty, sty] o.type #[a.eval x, a.eval y]).run P E.w = .ok (.slice (some ⟨E.w.heap.size, 0, none⟩) (xs.length + ys.length) cap) w' := by
    rw [hux, hu]
    cases ad2 with
    | none =>
      have h0 : xs.length = 0 := by
        rcases hsrc2 with h | ⟨a1, h, _⟩
        · exact h
        · simp at h
      have ho0 : olds = [] := List.eq_nil_of_length_eq_zero (by rw [hol, h0]; simp)
      have hr0 : ys.length * inf.bytes ≤ 140737488355328 := by rw [h0, Nat.zero_add] at hroom; exact hroom
      have := run_append_nil (P := P) E.w sty o.type e' inf z hun hinf hz a0 ys.length c news hnl hcells hpos (by omega) (by omega)
      rw [h0, this]
      simp only [w', cap, h0, ho0, Nat.zero_add, Array.empty_append]
    | some a1 =>
      have holds : ∀ j v, olds[j]? = some v → E.w.cell? (a1.add j) = some v := by
        rcases hsrc2 with h | ⟨a2, h1, h2⟩
        · intro j v hj
          rw [h] at hol
          have e0 : olds = [] := List.eq_nil_of_length_eq_zero (by rw [hol]; simp)
          rw [e0] at hj
          simp at hj
        · simp only [Option.some.injEq] at h1; subst h1; exact h2
      exact run_append_grow (P := P) E.w sty o.type e' inf z hun hinf hz a1 xs.length xs.length olds hol holds a0 ys.length c news hnl hcells (by omega) (by omega) (growslice_fits (by omega) hroom)
  have hgr : E.w.grownBy w' none := ⟨rfl, rfl, rfl, by simp [w'], fun k hk _ => heap_alloc_old E.w.drew _ k hk⟩
  have hdl : (dd xs ++ ys).length = xs.length + ys.length := by simp [dd]
  obtain ⟨E', hw', x', hinv, hval⟩ := hi.newRowV hd' (es := dd xs ++ ys) (v := .slice (some ⟨E.w.heap.size, 0, none⟩) (xs.length + ys.length) cap) (us := olds ++ news) (e := e') (k := inf.size) (w' := w') hgr
    (by
      rw [hdl]
      refine ⟨by rw [List.length_append, hol, hnl, Nat.add_mul], .inr ⟨E.w.heap.size, cap, _, rfl, Nat.le_refl _, heap_alloc_new E.w.drew _, hge, hcm, ?_, ?_⟩⟩
      · simp only [Array.size_append, List.size_toArray, size_zeroCells, hzc, hol, hnl, ← Nat.add_mul]
        congr 1
        omega
      · simp only [Array.toList_append, List.append_assoc]
        rw [← List.append_assoc, Nat.add_mul, ← hol, ← hnl, ← List.length_append]
        exact List.take_left)
    (fun E' hw' x' => RowRel.app (by rw [hol]; simp [dd]) (hrow2.up x') (hrow.up x'))
  refine ⟨_, .slice (some ⟨E.w.heap.size, 0, none⟩) (xs.length + ys.length) cap, E', run_app_op ho (by rw [hw']; exact hrun), .inl rfl, hinv, ?_⟩
  simp only [RelV]
  rw [hdl] at hval
  exact ⟨rfl, inf.size, _, _, hval, Nat.le_refl _, fun _ => rfl⟩
/-- append of nothing onto such a slice -/
theorem eff_append_sx0 {o : Oper} {t : S} {x y : Operand} {sty : TypeId} {e k : Nat} {xs : List (List D)} {ys : List (List TV)} {rp : List Pl}
    (ho : o.op = .call { callee := .builtin .append, args := #[x, y], argTypes := #[sty, sty] }) (hx : ev t x = .sx xs) (hs : Src t (ev t y) rp ys)
    (he : slE P sty = some e) (hk : szO P e = some k) : EffOK P A o t ⟨ys.length = 0, pl x ++ (pl y ++ rp), [], .d (.sl xs)⟩ := .pure fun h0 t' hr a E hi => by
  have hx' := ev_rel hi x
  rw [ev_eq (pl_left hr), hx] at hx'
  simp only [RelV] at hx'
  obtain ⟨hx1, ad1, hux⟩ := hx'
  have hy' := ev_rel hi y
  rw [ev_eq (pl_left (pl_right hr))] at hy'
  have hys : ys = [] := List.eq_nil_of_length_eq_zero h0
  obtain ⟨ad, c, news, hu, hnl, _, _, _⟩ := hs.rel (k := k) (fun e he => by subst hys; simp at he) (fun p hp => pl_right (pl_right hr) p hp) hi hy'
  rw [h0] at hu
  unfold slE at he
  split at he
  rotate_left
  · simp at he
  rename_i e' hun
  simp only [Option.some.injEq] at he
  subst he
  unfold szO at hk
  cases hinf : P.info? e' with
  | none => simp [hinf] at hk
  | some inf =>
  refine ⟨.slice ad1 xs.length xs.length, run_app_op ho ?_, by simp only [RelV]; rw [← hux]; exact hx1⟩
  rw [hux, hu]
  cases ad <;> cases ad1 <;> simp [Builtin.append_, run_underlying hun, sizeOf, typeInfo, hinf, Builtin.lenOf, Builtin.firstCells, storeCells, loadCells, loadCellsFrom]

/-- []T{..}: a row of the activation's own -/
theorem eff_buildSlice_row {o : Oper} {t : S} {ty e k n d : Nat} {ps : List (Nat × Operand)} {z : Value} (ho : o.op = .buildSlice ty n ps.toArray) (he : slE P ty = some e) (hk : szO P e = some k) (hz : zrO P e = some z)
    (hseq : seqParts ps n = true) :
    EffOK P A o t ⟨t (.o d) = .none ∧ (∀ e ∈ ps.map (fun x => (ev t x.2).cells), e.length = k ∧ ∀ c ∈ e, c.one = true) ∧ n * k ≤ 16777216 ∧ 0 < k, ps.flatMap (fun x => pl x.2) ++ [.o d], [(.o d, .row e k (ps.map fun x => (ev t x.2).cells) false)], .oref d n⟩ := fun ⟨hd, hC, hsm, hk0⟩ t' hr a E hi => by
  have hseq' : ps.map (·.1) = List.range n := by simpa [seqParts] using hseq
  have hn : ps.length = n := by have := congrArg List.length hseq'; simpa using this
  rw [List.range_eq_range', ← hn] at hseq'
  have hd' : t' (.o d) = .none := (pl_right hr _ (by simp)).trans hd
  have hr1 := pl_left hr
  have hev : (ps.map fun x => ev t' x.2) = ps.map fun x => ev t x.2 :=
    List.map_congr_left fun x hx => ev_eq fun p hp => hr1 p (List.mem_flatMap.2 ⟨x, hx, hp⟩)
  let vs := ps.map fun x => ev t x.2
  let us := ps.map fun x => a.eval x.2
  have hrel : RelVs E vs us := by
    have := evs_rel hi (ps.map (·.2))
    simp only [List.map_map] at this
    have h2 : (List.map (ev t' ∘ fun x => x.2) ps) = vs := hev
    rw [h2] at this
    exact this
  have hCm : ∀ v ∈ vs, v.cells.length = k ∧ ∀ c ∈ v.cells, c.one = true := fun v hv => by
    simp only [vs, List.mem_map] at hv
    obtain ⟨x, hx, rfl⟩ := hv
    exact hC _ (List.mem_map.2 ⟨x, hx, rfl⟩)
  have hvl : vs.length = n := by simp [vs, hn]
  obtain ⟨ru, hrun, hsz, hrel2⟩ := run_buildSlice (P := P) he hk hz hrel (fun v hv => (hCm v hv).1) (fun v hv => (hCm v hv).2) (by rw [hvl]; exact hsm)
  have hmap : ps.map (fun x => (ev t x.2).cells) = vs.map TV.cells := by simp [vs, Function.comp_def]
  have hln : (vs.map TV.cells).length = n := by simp [hvl]
  have hnk : n ≤ 16777216 := Nat.le_trans (Nat.le_mul_of_pos_right n hk0) hsm
  obtain ⟨E', hw', x, hinv, hval⟩ := hi.newRowV hd' (es := vs.map TV.cells) (v := .slice (some ⟨E.w.heap.size, 0, none⟩) n n) (us := ru.toList) (e := e) (k := k) (w' := E.w.alloc (.cells ru e)) (World.grownBy_alloc _ _ _)
    (by
      rw [hln]
      refine ⟨by simp [hsz, hvl], .inr ⟨E.w.heap.size, n, ru, rfl, Nat.le_refl _, heap_alloc_new E.w _, Nat.le_refl _, by simp only [maxLen]; omega, by rw [hsz, hvl], ?_⟩⟩
      rw [List.take_of_length_le (by simp [hsz, hvl])])
    (fun E' hw' x => by
      refine RowRel.of_get fun i el hel => ?_
      simp only [List.getElem?_map, Option.map_eq_some_iff] at hel
      obtain ⟨v, h3, rfl⟩ := hel
      refine ⟨(hCm v (List.mem_of_getElem? h3)).1, CellsRel.of_get fun j tv hj => ?_⟩
      have hfl : (vs.flatMap TV.cells)[i * k + j]? = some tv := flat_get (fun v hv => (hCm v hv).1) h3 hj
      obtain ⟨u, h6, h7⟩ := hrel2.get hfl
      refine ⟨u, by simpa using h6, h7.one ((hCm v (List.mem_of_getElem? h3)).2 tv (List.mem_of_getElem? hj)), h7.up x⟩)
  refine ⟨_, .slice (some ⟨E.w.heap.size, 0, none⟩) n n, E', ?_, .inl rfl, by rw [hmap]; exact hinv, ?_⟩
  · have hz2 := parts_zip (fun x => a.eval x) ps 0 hseq'
    simp only [execOp, ho, List.map_toArray, hz2, Sem.run_bind, hw']
    rw [← hvl, hrun]
    rfl
  · simp only [RelV]
    rw [hln] at hval
    exact ⟨rfl, k, n, _, hval, Nat.le_refl _, fun _ => rfl⟩

end
end Go.Tr
