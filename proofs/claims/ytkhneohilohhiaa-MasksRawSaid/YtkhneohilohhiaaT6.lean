/-
  Laws of the layer between the model and plain data (states, operations, calls, loops); none has a condition beyond those that stand in its own statement.
-/
import Derived.Test.YtkhneohilohhiaaT5
set_option linter.unusedSimpArgs false
namespace Go.Tr
open Go

section
variable {P : Program} {A : Actv}

theorem Fr.next {E0 E E' : En} (f : Fr E0 E) (os : E'.w.os = E.w.os) (tape : E'.w.tape = E.w.tape) (output : E'.w.output = E.w.output) (size : E.w.heap.size ≤ E'.w.heap.size)
    (old : ∀ b, b < E0.w.heap.size → (∀ i, E0.blk (.x i) ≠ some b) → E'.w.heap[b]? = E.w.heap[b]?) (xb : ∀ i, E'.blk (.x i) = E.blk (.x i))
    (new : ∀ id b, E'.own (.o id) = some b → E.own (.o id) = some b ∨ E.w.heap.size ≤ b) (st : ∀ b o, E.St b o → E'.St b o)
    (newst : ∀ b o, E'.St b o → E.St b o ∨ E0.w.heap.size ≤ b) : Fr E0 E' :=
  ⟨os.trans f.os, tape.trans f.tape, output.trans f.output, Nat.le_trans f.size size, fun b h1 h2 => (old b h1 h2).trans (f.old b h1 h2), fun i => (xb i).trans (f.xb i),
    fun id b h => (new id b h).elim (f.new id b) (fun h => Nat.le_trans f.size h), fun b o h => st b o (f.st b o h), fun b o h => (newst b o h).elim (f.newst b o) .inr⟩

theorem InvE.step {t t' : S} {a : Act} {E E' : En} (h : InvE A t a E) (hH : HInv E' t') (x : ExtA E E') (fr : Fr A.E0 E') (hs : ∀ k, t' (.s k) = t (.s k)) : InvE A t' a E' :=
  ⟨hH, fr, fun k tv hk => by
    obtain ⟨u, h1, h2⟩ := h.sl k tv (by rw [← hs]; exact hk)
    exact ⟨u, h1, h2.up x⟩, h.defers, h.size⟩

theorem upd_s {t : S} {p : Pl} {i : It} (hp : ∀ k, p ≠ .s k) (k : Nat) : upd t p i (.s k) = t (.s k) := by
  rw [upd, if_neg (fun e => hp k e.symm)]

theorem InvE.put {t : S} {a : Act} {E : En} (h : InvE A t a E) {d : Nat} (hd : d < A.N) {tv : TV} {u : Value} (hr : RelV E tv u) : InvE A (upd t (.s d) (.v tv)) (a.put (some d) u) E := by
  have hsz := h.size
  refine ⟨h.h.slot d _, h.fr, fun k tv' hk => ?_, h.defers, by simpa [Act.put] using hsz⟩
  by_cases e : k = d
  · subst e
    simp only [upd, if_true, It.v.injEq] at hk
    subst hk
    have hlt : k < a.tmps.size := by omega
    exact ⟨u, by simp [Act.put, hlt], hr⟩
  · simp only [upd, Pl.s.injEq, e, if_false] at hk
    obtain ⟨u', h1, h2⟩ := h.sl k tv' hk
    exact ⟨u', by simp [Act.put, Array.getElem?_setIfInBounds, show ¬ d = k from fun h => e h.symm, h1], h2⟩

theorem upd_same (t : S) (p : Pl) (i : It) : upd t p i p = i := by simp [upd]
theorem upd_other (t : S) {p q : Pl} (i : It) (h : q ≠ p) : upd t p i q = t q := by simp [upd, h]

/-- A new box. -/
theorem InvE.newBox {t : S} {a : Act} {E : En} (h : InvE A t a E) {d : Nat} (hd : t (.o d) = .none) {us : Array Value} {cs : List TV} (hs : us.size = cs.length) (hc : CellsRel E us.toList 0 cs) (ty : TypeId) :
    ∃ E' : En, E'.w = E.w.alloc (.cells us ty) ∧ InvE A (upd t (.o d) (.box cs)) a E' ∧ RelV E' (.ptr (.o d) 0) (.pointer (some ⟨E.w.heap.size, 0, none⟩)) := by
  have hfree := h.h.item (.o d) (by simp)
  rw [hd] at hfree
  obtain ⟨hb0, hv0⟩ := hfree d rfl
  let E' : En := { w := E.w.alloc (.cells us ty), St := E.St, blk := fun p => if p = .o d then some E.w.heap.size else E.blk p, val := E.val }
  have hold : ∀ b, b < E.w.heap.size → E'.w.heap[b]? = E.w.heap[b]? := fun b hb => heap_alloc_old E.w _ b hb
  have x : ExtA E E' := by
    refine ⟨fun _ _ h => h, fun b o hst => World.cell?_of_block (hold b (h.h.stsz b o hst)), fun id b _ he => ?_, fun i b he => by simpa [E'] using he, fun i b he => by simpa [E'] using he, fun _ _ c v _ hv => ⟨c, v, hv, Nat.le_refl _, fun _ => rfl⟩⟩
    by_cases e : id = d
    · subst e; rw [hb0] at he; simp at he
    · simpa [E', e] using he
  have hown : E'.own (.o d) = some E.w.heap.size := by simp [En.own, E']
  have hownq : ∀ q, q ≠ .o d → E'.own q = E.own q := fun q hq => En.own_eq (by simp [E', hq]) (fun _ _ => rfl)
  have hH : HInv E' (upd t (.o d) (.box cs)) := by
    refine h.h.change (by simp) x (fun b o hst => .inl hst) (fun q hq => by simp [E', hq]) (fun id hid => rfl) (by simp [E']) (fun q b hq hb => hold b (h.h.size q b hb)) (fun b hb => ?_) ?_ (fun b o hst hb => ?_)
    · rw [hown] at hb; simp at hb; subst hb; exact ⟨by simp [E'], .inr (Nat.le_refl _)⟩
    · refine ⟨fun id hid => ?_, E.w.heap.size, ty, us, by simp [E'], heap_alloc_new E.w _, hs, hc.up x⟩
      simp only [Pl.o.injEq] at hid; subst hid; exact hv0
    · rw [hown] at hb; simp at hb; subst hb
      exact absurd (h.h.stsz _ _ hst) (by omega)
  refine ⟨E', rfl, h.step hH x (h.fr.next rfl rfl rfl (by simp [E']) (fun b hb _ => hold b (Nat.lt_of_lt_of_le hb h.fr.size)) (fun i => by simp [E']) (fun id b hb => ?_) (fun _ _ h => h) (fun _ _ h => .inl h)) (fun k => upd_s (by simp) k), ?_⟩
  · by_cases e : id = d
    · subst e; rw [hown] at hb; simp at hb; subst hb; exact .inr (Nat.le_refl _)
    · rw [hownq _ (by simpa using e)] at hb; exact .inl hb
  · simp only [RelV]; exact ⟨E.w.heap.size, by simp [E'], rfl⟩

theorem cells_ofCell (E : En) (us : List Value) (h : us.all (·.oneCell') = true) : CellsRel E us 0 (us.map ofCell) :=
  (ofCells_rel E us).cells (fun t ht => by
    obtain ⟨v, hv, rfl⟩ := List.mem_map.1 ht
    have := List.all_eq_true.1 h v hv
    unfold ofCell; split <;> first | rfl | exact this)

def zcells : Value → List Value
  | .agg cs => cs.toList
  | v => [v]

theorem zcells_eq (v : Value) : zcells v = v.cells.toList := by cases v <;> rfl

theorem eff_alloc {o : Oper} {t : S} {ty d : Nat} {z : Value} (ho : o.op = .alloc ty) (hz : zrO P ty = some z) (h1 : (zcells z).all (·.oneCell') = true) :
    EffOK P A o t ⟨t (.o d) = .none, [.o d], [(.o d, .box ((zcells z).map ofCell))], .ptr (.o d) 0⟩ := fun hC t' hr a E hi => by
  have ht' : t' (.o d) = .none := (hr _ (by simp)).trans hC
  rw [zcells_eq] at h1
  obtain ⟨E', hw, hinv, hrel⟩ := hi.newBox ht' (us := z.cells) (cs := (zcells z).map ofCell) (by simp [zcells_eq]) (by rw [zcells_eq]; exact cells_ofCell E _ h1) ty
  refine ⟨_, _, E', ?_, .inl rfl, hinv, hrel⟩
  unfold zrO at hz
  cases hinf : P.info? ty with
  | none => simp [hinf] at hz
  | some inf =>
    simp only [hinf, Option.bind_some] at hz
    simp [execOp, ho, Instr.alloc, zeroValue, typeInfo, hinf, hz, newVar, newRow, hw]

theorem cells_rel {E : En} : ∀ {v : TV} {u : Value}, RelV E v u → (∀ c ∈ v.cells, c.one = true) → u.cells.size = v.cells.length ∧ CellsRel E u.cells.toList 0 v.cells := by
  intro v u hr h1
  have single : v.cells = [v] → u.cells.size = v.cells.length ∧ CellsRel E u.cells.toList 0 v.cells := by
    intro hv
    rw [hv] at h1 ⊢
    have ho := hr.one (h1 v (by simp))
    have hu : u.cells = #[u] := by cases u <;> first | rfl | simp [Value.oneCell'] at ho
    rw [hu]
    exact ⟨rfl, ⟨u, rfl, ho, hr⟩, trivial⟩
  cases v with
  | agg vs =>
    simp only [RelV] at hr
    obtain ⟨us, rfl, hs⟩ := hr
    exact ⟨by simpa [Value.cells, TV.cells] using hs.length, hs.cells h1⟩
  | _ => exact single rfl

theorem eff_box {o : Oper} {t : S} {ty d : Nat} {x : Operand} (ho : o.op = .box ty x) :
    EffOK P A o t ⟨t (.o d) = .none ∧ ∀ c ∈ (ev t x).cells, c.one = true, pl x ++ [.o d], [(.o d, .box (ev t x).cells)], .ptr (.o d) 0⟩ := fun ⟨hC, h1⟩ t' hr a E hi => by
  have hx := ev_rel hi x
  rw [ev_eq (pl_left hr)] at hx
  have ht' : t' (.o d) = .none := (pl_right hr _ (by simp)).trans hC
  obtain ⟨hs, hc⟩ := cells_rel hx h1
  obtain ⟨E', hw, hinv, hrel⟩ := hi.newBox ht' hs hc ty
  refine ⟨_, _, E', ?_, .inl rfl, hinv, hrel⟩
  simp [execOp, ho, Instr.box, newVar, newRow, hw]

/-! ### stores -/
def setAt (cs : List TV) (q : Nat) (vs : List TV) : List TV := cs.take q ++ (vs ++ cs.drop (q + vs.length))

theorem setAt_length {cs vs : List TV} {q : Nat} (h : q + vs.length ≤ cs.length) : (setAt cs q vs).length = cs.length := by
  simp [setAt]; omega

theorem setAt_get {cs vs : List TV} {q : Nat} (h : q + vs.length ≤ cs.length) (i : Nat) : (setAt cs q vs)[i]? = if i < q then cs[i]? else if i < q + vs.length then vs[i - q]? else cs[i]? := by
  unfold setAt
  by_cases h1 : i < q
  · rw [List.getElem?_append_left (by simp; omega), List.getElem?_take, if_pos h1, if_pos h1]
  · rw [List.getElem?_append_right (by simp; omega), if_neg h1]
    have hl : (cs.take q).length = q := by simp; omega
    rw [hl]
    by_cases h2 : i < q + vs.length
    · rw [List.getElem?_append_left (by omega), if_pos h2]
    · rw [List.getElem?_append_right (by omega), if_neg h2, List.getElem?_drop]
      congr 1
      omega

theorem run_store_row {w : World} {b q : Nat} {ty : TypeId} {cur : Array Value} {e : TypeId} (hh : w.heap[b]? = some (.cells cur e (0, 0))) {v : Value} {z : Nat} (hz : szO P ty = some z) (hs : v.cells.size = z)
    (hl : q + z ≤ cur.size) (h1 : ∀ u ∈ v.cells.toList, u.oneCell' = true) :
    (storeVar ty ⟨b, q, none⟩ v).run P w = .ok () (w.setRow b (cur.toList.take q ++ v.cells.toList ++ cur.toList.drop (q + v.cells.size)).toArray) := by
  have hst := run_storeCells_at P b q e v.cells.toList 0 cur w hh (by simp; omega) h1
  simp only [Nat.add_zero, Array.length_toList] at hst
  unfold szO at hz
  cases hinf : P.info? ty with
  | none => simp [hinf] at hz
  | some inf =>
    simp only [hinf, Option.map_some, Option.some.injEq] at hz
    simp only [storeVar, sizeOf, typeInfo, Sem.run_bind, run_program, Result.andThen_ok, hinf, Sem.run_pure, hs, hz, ne_eq, not_true_eq_false, if_false, pure_bind]
    simpa [hs] using hst

theorem get_put {α : Type} {cur vs : List α} {q : Nat} (h : q + vs.length ≤ cur.length) (i : Nat) : (cur.take q ++ vs ++ cur.drop (q + vs.length))[i]? = if i < q then cur[i]? else if i < q + vs.length then vs[i - q]? else cur[i]? := by
  rw [List.append_assoc]
  by_cases h1 : i < q
  · rw [List.getElem?_append_left (by simp; omega), List.getElem?_take, if_pos h1, if_pos h1]
  · rw [List.getElem?_append_right (by simp; omega), if_neg h1]
    have hl : (cur.take q).length = q := by simp; omega
    rw [hl]
    by_cases h2 : i < q + vs.length
    · rw [List.getElem?_append_left (by omega), if_pos h2]
    · rw [List.getElem?_append_right (by omega), if_neg h2, List.getElem?_drop]
      congr 1
      omega

theorem setRow_heap_self {w : World} {b : Nat} {cur : Array Value} {e : TypeId} (hh : w.heap[b]? = some (.cells cur e (0, 0))) (cs : Array Value) : (w.setRow b cs).heap[b]? = some (.cells cs e (0, 0)) :=
  setRow_heap w b cur cs e (0, 0) hh

theorem eff_store_box {o : Oper} {t : S} {ty : TypeId} {x y : Operand} {p : Pl} {q : Nat} {cs vs : List TV} (ho : o.op = .store ty x y) (hx : ev t x = .ptr p q) (ht : t p = .box cs) (hv : (ev t y).cells = vs) (hz : szO P ty = some vs.length) :
    EffOK P A o t ⟨q + vs.length ≤ cs.length ∧ ∀ c ∈ vs, c.one = true, pl x ++ (pl y ++ [p]), [(p, .box (setAt cs q vs))], .junk⟩ := fun ⟨hl, h1⟩ t' hr a E hi => by
  have hx' := ev_rel hi x
  rw [ev_eq (pl_left hr), hx] at hx'
  have hy' := ev_rel hi y
  rw [ev_eq (pl_left (pl_right hr))] at hy'
  have ht' : t' p = .box cs := (pl_right (pl_right hr) _ (by simp)).trans ht
  obtain ⟨hs, hc⟩ := cells_rel hy' (by rw [hv]; exact h1)
  rw [hv] at hs hc
  obtain ⟨b, ty', us, hu, hb, hh, hus, hcs⟩ := box_cur hi ht' hx'
  have hp : ∀ k, p ≠ .s k := by
    rintro k rfl
    rw [hi.h.frees k] at hb; simp at hb
  have hob : E.own p = some b := by simp [En.own, hb]
  have hone : ∀ u ∈ (a.eval y).cells.toList, u.oneCell' = true := fun u hu => by
    obtain ⟨i, hi', rfl⟩ := List.getElem_of_mem hu
    have hlt : i < vs.length := by rw [← hs]; simpa using hi'
    obtain ⟨u', h2, h3, _⟩ := hc.get (i := i) (t := vs[i]) (by simp [hlt])
    simp only [Nat.zero_add, List.getElem?_eq_getElem hi', Option.some.injEq] at h2
    subst h2; exact h3
  let arr : Array Value := (us.toList.take q ++ (a.eval y).cells.toList ++ us.toList.drop (q + (a.eval y).cells.size)).toArray
  have hrun := run_store_row (P := P) hh (b := b) (q := q) (v := a.eval y) hz hs (by omega) hone
  let E' : En := { E with w := E.w.setRow b arr }
  have hother : ∀ b', b' ≠ b → E'.w.heap[b']? = E.w.heap[b']? := fun b' hne => setRow_other E.w b b' _ hne
  have hstb : ∀ b' o', E.St b' o' → b' ≠ b := fun b' o' hst e => by
    subst e
    obtain ⟨e', k', es', h2, _⟩ := hi.h.sep _ _ hst p hob
    rw [ht'] at h2; simp at h2
  have x : ExtA E E' := ⟨fun _ _ h => h, fun b' o' hst => World.cell?_of_block (hother b' (hstb b' o' hst)), fun _ _ _ h => h, fun _ _ h => h, fun _ _ h => h, fun _ _ c v _ hv => ⟨c, v, hv, Nat.le_refl _, fun _ => rfl⟩⟩
  have harr : arr.size = us.size := by simp [arr]; omega
  have hsz : E'.w.heap.size = E.w.heap.size := by simp [E', World.setRow]
  have hH : HInv E' (upd t' p (.box (setAt cs q vs))) := by
    refine hi.h.change hp x (fun b o hst => .inl hst) (fun q hq => rfl) (fun id hid => rfl) (by rw [hsz]; exact Nat.le_refl _) (fun q' b' hq hb' => hother b' (fun e => hq (hi.h.inj _ _ _ (e ▸ hb') hob)))
      (fun b' hb' => ?_) ?_ (fun b' o' hst hb' => ?_)
    · have : E'.own p = E.own p := rfl
      rw [this] at hb'
      exact ⟨by rw [hsz]; exact hi.h.size _ _ hb', .inl hb'⟩
    · have hold := hi.h.item p hp
      rw [ht'] at hold
      refine ⟨hold.1, b, ty', arr, hb, setRow_heap_self hh arr, by rw [harr, hus, setAt_length hl], CellsRel.of_get fun i tv hi' => ?_⟩
      rw [setAt_get hl] at hi'
      have hget := get_put (cur := us.toList) (vs := (a.eval y).cells.toList) (q := q) (by simp; omega) i
      simp only [Array.length_toList, hs] at hget
      simp only [arr, Nat.zero_add, List.toList_toArray, hs, hget]
      by_cases h2 : i < q
      · rw [if_pos h2] at hi' ⊢
        obtain ⟨u, h3, h4, h5⟩ := hcs.get hi'
        exact ⟨u, by simpa using h3, h4, h5.up x⟩
      · rw [if_neg h2] at hi' ⊢
        by_cases h3 : i < q + vs.length
        · rw [if_pos h3] at hi' ⊢
          obtain ⟨u, h3, h4, h5⟩ := hc.get hi'
          exact ⟨u, by simpa using h3, h4, h5.up x⟩
        · rw [if_neg h3] at hi' ⊢
          obtain ⟨u, h3, h4, h5⟩ := hcs.get hi'
          exact ⟨u, by simpa using h3, h4, h5.up x⟩
    · have he : E'.own p = E.own p := rfl
      rw [he, hob] at hb'
      exact absurd (Option.some.inj hb').symm (hstb b' o' hst)
  refine ⟨.skip, undef, E', ?_, .inr ⟨rfl, rfl⟩, hi.step hH x (hi.fr.next rfl rfl rfl (by rw [hsz]; exact Nat.le_refl _) (fun b' h2 h3 => hother b' (fun e => ?_)) (fun _ => rfl) (fun id b' hb' => .inl hb') (fun _ _ h => h) (fun _ _ h => .inl h)) (fun k => upd_s hp k), by simp only [RelV]⟩
  · simp only [execOp, ho, hu, Instr.storeAt, Instr.sureAddr, Sem.run_bind, Sem.run_pure, Result.andThen_ok, hrun, E', arr]
  · subst e
    cases p with
    | s k => exact hp k rfl
    | x k => exact h3 k ((hi.fr.xb k).symm.trans hb)
    | o id => have := hi.fr.new id b' hob; omega

end
end Go.Tr
