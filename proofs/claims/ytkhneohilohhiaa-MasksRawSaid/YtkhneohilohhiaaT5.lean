/-
  Laws of the layer between the model and plain data (states, operations, calls, loops); none has a condition beyond those that stand in its own statement.
-/
import Derived.Test.YtkhneohilohhiaaT4
set_option linter.unusedSimpArgs false
namespace Go.Tr
open Go

section
variable {P : Program} {A : Actv}

theorem run_load_one {ty : TypeId} (h : shp P ty = some false) {a : Addr} {u : Value} {w : World} (hc : w.cell? a = some u) : (loadVar ty a).run P w = .ok u w := by
  unfold shp at h
  cases hu : P.underlying ty with
  | none => simp [hu] at h
  | some d =>
    have : (isAgg ty).run P w = .ok false w := by
      unfold isAgg
      rw [Sem.run_bind, run_underlying hu w]
      cases d <;> simp_all
    simp [loadVar, this, hc]

theorem run_load_agg {ty z : Nat} (h : shp P ty = some true) (hz : szO P ty = some z) {b o : Nat} {cs : List Value} (hl : cs.length = z) {w : World} (hc : w.rangeAt b o cs) :
    (loadVar ty ⟨b, o, none⟩).run P w = .ok (.agg cs.toArray) w := by
  unfold shp at h
  cases hu : P.underlying ty with
  | none => simp [hu] at h
  | some d =>
    refine run_loadVar_mid w b o ty cs d hc hu ?_ ?_
    · cases d <;> simp_all
    · subst hl; exact hz

theorem RepCells.range {E : En} {b o : Nat} {xs : List D} (h : RepCells E b o xs) : ∃ us : List Value, us.length = xs.length ∧ E.w.rangeAt b o us ∧ RelVs E (xs.map .d) us := by
  induction xs generalizing o with
  | nil => exact ⟨[], rfl, fun j v hv => by simp at hv, by simp only [List.map_nil, RelVs]⟩
  | cons x xs ih =>
    simp only [RepCells] at h
    obtain ⟨⟨_, u, hu, hr⟩, h2⟩ := h
    obtain ⟨us, h3, h4, h5⟩ := ih h2
    refine ⟨u :: us, by simp [h3], fun j v hv => ?_, ?_⟩
    · cases j with
      | zero => simp at hv; subst hv; simpa using hu
      | succ j =>
        have := h4 j v (by simpa using hv)
        rwa [show o + (j + 1) = o + 1 + j by omega]
    · simp only [List.map_cons, RelVs, RelV]
      exact ⟨u, us, rfl, hr, h5⟩

theorem RepCells.sub {E : En} {b o : Nat} {xs : List D} (h : RepCells E b o xs) (q z : Nat) : RepCells E b (o + q) ((xs.drop q).take z) :=
  RepCells.of_get fun i x hx => by
    have hx' : xs[q + i]? = some x := by
      rw [List.getElem?_take] at hx
      split at hx
      · simpa using hx
      · simp at hx
    have := h.get hx'
    rwa [← Nat.add_assoc] at this

theorem CellsRel.sub {E : En} {us : List Value} {o : Nat} {ts : List TV} (h : CellsRel E us o ts) (q z : Nat) : CellsRel E us (o + q) ((ts.drop q).take z) :=
  CellsRel.of_get fun i x hx => by
    have hx' : ts[q + i]? = some x := by
      rw [List.getElem?_take] at hx
      split at hx
      · simpa using hx
      · simp at hx
    have := h.get hx'
    rwa [← Nat.add_assoc] at this

theorem CellsRel.vals {E : En} {us : List Value} {o : Nat} {ts : List TV} (h : CellsRel E us o ts) : RelVs E ts ((us.drop o).take ts.length) ∧ ((us.drop o).take ts.length).length = ts.length := by
  have hl : ((us.drop o).take ts.length).length = ts.length := by
    cases ts with
    | nil => simp
    | cons t ts =>
      have := h.get (i := ts.length) (t := (t :: ts)[ts.length]) (by simp)
      obtain ⟨u, hu, _⟩ := this
      have := (List.getElem?_eq_some_iff.1 hu).1
      simp only [List.length_take, List.length_drop, List.length_cons]
      omega
  refine ⟨RelVs.of_get hl fun i t u ht hu => ?_, hl⟩
  obtain ⟨u', h1, _, h2⟩ := h.get ht
  rw [List.getElem?_take] at hu
  split at hu
  · rw [List.getElem?_drop, h1] at hu
    simp at hu; subst hu; exact h2
  · simp at hu

theorem rangeAt_list {w : World} {b : Nat} {us : List Value} (h : ∀ j u, us[j]? = some u → w.cell? ⟨b, j, none⟩ = some u) (o n : Nat) : w.rangeAt b o ((us.drop o).take n) := fun j v hv => by
  rw [List.getElem?_take] at hv
  split at hv
  · exact h _ _ (by simpa using hv)
  · simp at hv

/-- A box as it stands. -/
theorem box_cur {t : S} {a : Act} {E : En} (hi : InvE A t a E) {p : Pl} {cs : List TV} (ht : t p = .box cs) {q : Nat} {u : Value} (hu : RelV E (.ptr p q) u) :
    ∃ b ty us, u = .pointer (some ⟨b, q, none⟩) ∧ E.blk p = some b ∧ E.w.heap[b]? = some (.cells us ty (0, 0)) ∧ us.size = cs.length ∧ CellsRel E us.toList 0 cs := by
  simp only [RelV] at hu
  obtain ⟨b, hb, hu⟩ := hu
  have hp : ∀ k, p ≠ .s k := by
    rintro k rfl
    rw [hi.h.frees k] at hb; simp at hb
  have := hi.h.item p hp
  rw [ht] at this
  obtain ⟨_, b', ty, us, h1, h2, h3, h4⟩ := this
  rw [hb] at h1
  simp only [Option.some.injEq] at h1
  subst h1
  exact ⟨b, ty, us, hu, hb, h2, h3, h4⟩

theorem cell_heap {w : World} {b : Nat} {us : Array Value} {ty : TypeId} {f : Nat × Nat} (h : w.heap[b]? = some (.cells us ty f)) (j : Nat) : w.cell? ⟨b, j, none⟩ = us[j]? := by
  simp [World.cell?, h]

theorem eff_load_box {o : Oper} {t : S} {ty : TypeId} {x : Operand} {p : Pl} {q : Nat} {cs : List TV} {v : TV} (ho : o.op = .load ty x) (hx : ev t x = .ptr p q) (ht : t p = .box cs)
    (h : (shp P ty = some false ∧ cs[q]? = some v) ∨ (∃ z, shp P ty = some true ∧ szO P ty = some z ∧ q + z ≤ cs.length ∧ v = .agg ((cs.drop q).take z))) :
    EffOK P A o t ⟨True, pl x ++ [p], [], v⟩ :=
  .pure fun _ t' hr a E hi => by
    have hx' := ev_rel hi x
    rw [ev_eq (pl_left hr), hx] at hx'
    have ht' : t' p = .box cs := (pl_right hr _ (by simp)).trans ht
    obtain ⟨b, ty', us, hu, hb, hh, hs, hc⟩ := box_cur hi ht' hx'
    rcases h with ⟨h1, h2⟩ | ⟨z, h1, h2, h3, rfl⟩
    · obtain ⟨u, h4, h5, h6⟩ := hc.get h2
      refine ⟨u, ?_, h6⟩
      have hcell : E.w.cell? ⟨b, q, none⟩ = some u := by rw [cell_heap hh]; simpa using h4
      simp [execOp, ho, hu, Instr.loadAt, Instr.sureAddr, run_load_one h1 hcell]
    · have hc' := (hc.sub q z).vals
      simp only [Nat.zero_add] at hc'
      have hl : ((cs.drop q).take z).length = z := by simp; omega
      rw [hl] at hc'
      refine ⟨.agg ((us.toList.drop q).take z).toArray, ?_, ?_⟩
      · have := run_load_agg h1 h2 hc'.2 (w := E.w) (rangeAt_list (b := b) (fun j u hj => by rw [cell_heap hh]; simpa using hj) q z)
        simp only [execOp, ho, hu, Instr.loadAt, Instr.sureAddr, Sem.run_bind, Sem.run_pure, Result.andThen_ok, this]
      · simp only [RelV]; exact ⟨_, rfl, hc'.1⟩

theorem eff_load_ep {o : Oper} {t : S} {ty : TypeId} {x : Operand} {e : List D} {q : Nat} {v : TV} (ho : o.op = .load ty x) (hx : ev t x = .ep e q)
    (h : (shp P ty = some false ∧ ∃ y, e[q]? = some y ∧ v = .d y) ∨ (∃ z, shp P ty = some true ∧ szO P ty = some z ∧ q + z ≤ e.length ∧ v = .agg (((e.drop q).take z).map .d))) :
    EffOK P A o t ⟨True, pl x, [], v⟩ :=
  .pure fun _ t' hr a E hi => by
    have hx' := ev_rel hi x
    rw [ev_eq hr, hx] at hx'
    simp only [RelV] at hx'
    obtain ⟨b, of, hu, hc⟩ := hx'
    rcases h with ⟨h1, y, h2, rfl⟩ | ⟨z, h1, h2, h3, rfl⟩
    · obtain ⟨_, u, h4, h5⟩ := hc.get h2
      refine ⟨u, ?_, ?_⟩
      · simp [execOp, ho, hu, Instr.loadAt, Instr.sureAddr, run_load_one h1 h4]
      · simp only [RelV]; exact h5
    · obtain ⟨us, h4, h5, h6⟩ := (hc.sub q z).range
      have hl : us.length = z := by rw [h4]; simp; omega
      refine ⟨.agg us.toArray, ?_, ?_⟩
      · simp only [execOp, ho, hu, Instr.loadAt, Instr.sureAddr, Sem.run_bind, Sem.run_pure, Result.andThen_ok, run_load_agg h1 h2 hl h5]
      · simp only [RelV]; exact ⟨_, rfl, h6⟩

theorem eff_load_row {o : Oper} {t : S} {ty : TypeId} {x : Operand} {id n i q k : Nat} {e : TypeId} {es : List (List TV)} {sh : Bool} {v : TV} (ho : o.op = .load ty x) (hx : ev t x = .eptr id n i q) (ht : t (.o id) = .row e k es sh)
    (h : (shp P ty = some false ∧ (es.getD i [])[q]? = some v) ∨ (∃ z, shp P ty = some true ∧ szO P ty = some z ∧ q + z ≤ (es.getD i []).length ∧ v = .agg (((es.getD i []).drop q).take z))) :
    EffOK P A o t ⟨n = es.length ∧ i < es.length, pl x ++ [.o id], [], v⟩ :=
  .pure fun ⟨hn, hil⟩ t' hr a E hi => by
    have hx' := ev_rel hi x
    rw [ev_eq (pl_left hr), hx] at hx'
    have ht' : t' (.o id) = .row e k es sh := (pl_right hr _ (by simp)).trans ht
    subst hn
    obtain ⟨g, cap, us, h1, hu, h2, h3⟩ := eptr_cur hi ht' hx'
    have hg : es[i]? = some (es.getD i []) := by simp [List.getD, hil]
    obtain ⟨h4, h5⟩ := h3.get hg
    simp only [Nat.zero_add] at h5
    have hcell : ∀ j u, us[j]? = some u → E.w.cell? ⟨g, j, none⟩ = some u := fun j u hj => by
      rw [h2.cellAt j (by rw [← h2.1]; exact (List.getElem?_eq_some_iff.1 hj).1)]; exact hj
    rcases h with ⟨h6, h7⟩ | ⟨z, h6, h7, h8, rfl⟩
    · obtain ⟨u, h8, h9, h10⟩ := h5.get h7
      refine ⟨u, ?_, h10⟩
      simp [execOp, ho, hu, Instr.loadAt, Instr.sureAddr, run_load_one h6 (hcell _ _ h8)]
    · have hc' := (h5.sub q z).vals
      have hl : (((es.getD i []).drop q).take z).length = z := by simp at h8 ⊢; omega
      rw [hl] at hc'
      refine ⟨.agg ((us.drop (i * k + q)).take z).toArray, ?_, ?_⟩
      · simp only [execOp, ho, hu, Instr.loadAt, Instr.sureAddr, Sem.run_bind, Sem.run_pure, Result.andThen_ok, run_load_agg h6 h7 hc'.2 (rangeAt_list hcell _ z)]
      · simp only [RelV]; exact ⟨_, rfl, hc'.1⟩

/-! ### len -/
theorem eff_len_sl {o : Oper} {t : S} {x : Operand} {ty e : TypeId} {xs : List (List D)} (ho : o.op = .call { callee := .builtin .len, args := #[x], argTypes := #[ty] }) (he : slE P ty = some e) (hx : ev t x = .d (.sl xs)) :
    EffOK P A o t ⟨True, pl x, [], .d (.int .i64 xs.length)⟩ :=
  .pure fun _ t' hr a E hi => by
    have hx' := ev_rel hi x
    rw [ev_eq hr, hx] at hx'
    simp only [RelV, Rep] at hx'
    unfold slE at he
    split at he
    · rename_i e' hu
      have hlen : ∃ ad c, a.eval x = .slice ad xs.length c := by
        rcases hx' with ⟨h0, ad, c, h⟩ | ⟨b, of, c, k, h, _⟩
        · exact ⟨ad, c, by rw [h, h0]⟩
        · exact ⟨_, c, h⟩
      obtain ⟨ad, c, h⟩ := hlen
      refine ⟨_, ?_, rfl⟩
      simp [execOp, ho, resolve, invoke, builtin, h, Builtin.len_, run_underlying hu, goInt]
    · simp at he

theorem eff_len_nil {o : Oper} {t : S} {x : Operand} {ty e : TypeId} {ad : Option Addr} {n c : Nat} (ho : o.op = .call { callee := .builtin .len, args := #[x], argTypes := #[ty] }) (he : slE P ty = some e) (hx : ev t x = .c (.slice ad n c)) :
    EffOK P A o t ⟨True, pl x, [], .d (.int .i64 n)⟩ :=
  .pure fun _ t' hr a E hi => by
    have hx' := ev_rel hi x
    rw [ev_eq hr, hx] at hx'
    simp only [RelV] at hx'
    unfold slE at he
    split at he
    · rename_i e' hu
      refine ⟨_, ?_, rfl⟩
      simp [execOp, ho, resolve, invoke, builtin, hx', Builtin.len_, run_underlying hu, goInt]
    · simp at he

theorem eff_len_row {o : Oper} {t : S} {x : Operand} {ty e : TypeId} {id n k : Nat} {e' : TypeId} {es : List (List TV)} {sh : Bool} (ho : o.op = .call { callee := .builtin .len, args := #[x], argTypes := #[ty] }) (he : slE P ty = some e) (hx : ev t x = .oref id n)
    (ht : t (.o id) = .row e' k es sh) : EffOK P A o t ⟨n = es.length, pl x ++ [.o id], [], .d (.int .i64 n)⟩ :=
  .pure fun hC t' hr a E hi => by
    have hx' := ev_rel hi x
    rw [ev_eq (pl_left hr), hx] at hx'
    have ht' : t' (.o id) = .row e' k es sh := (pl_right hr _ (by simp)).trans ht
    subst hC
    obtain ⟨_, v, us, h2, h3, h4, h5⟩ := row_cur hi ht'
    have hv := h5 _ hx'
    unfold slE at he
    split at he
    · rename_i e' hu
      have hlen : ∃ ad c, a.eval x = .slice ad es.length c := by
        rcases h3.2 with ⟨rfl, h0⟩ | ⟨g, cap, cur, rfl, _⟩
        · exact ⟨none, 0, by rw [hv, h0]⟩
        · exact ⟨_, cap, hv⟩
      obtain ⟨ad, c, h⟩ := hlen
      refine ⟨_, ?_, rfl⟩
      simp [execOp, ho, resolve, invoke, builtin, h, Builtin.len_, run_underlying hu, goInt]
    · simp at he

theorem eff_len_str {o : Oper} {t : S} {x : Operand} {ty : TypeId} {s : ByteArray} (ho : o.op = .call { callee := .builtin .len, args := #[x], argTypes := #[ty] }) (he : isStr P ty = true) (hx : ev t x = .d (.str s)) :
    EffOK P A o t ⟨True, pl x, [], .d (.int .i64 s.size)⟩ :=
  .pure fun _ t' hr a E hi => by
    have hx' := ev_rel hi x
    rw [ev_eq hr, hx] at hx'
    simp only [RelV, Rep] at hx'
    unfold isStr at he
    split at he
    · rename_i hu
      refine ⟨_, ?_, rfl⟩
      simp [execOp, ho, resolve, invoke, builtin, hx', Builtin.len_, run_underlying hu, goInt]
    · simp at he

end
end Go.Tr
