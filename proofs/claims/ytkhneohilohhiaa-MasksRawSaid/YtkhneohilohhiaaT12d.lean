/-
  Laws of the layer between the model and plain data (states, operations, calls, loops); none has a condition beyond those that stand in its own statement.
-/
import Derived.Test.YtkhneohilohhiaaT12c
set_option linter.unusedSimpArgs false
namespace Go.Tr
open Go

section
variable {P : Program} {A : Actv}
/-- a row of the activation's own that lies in new memory -/
theorem InvE.newRowV {t : S} {a : Act} {E : En} (h : InvE A t a E) {d : Nat} (hd : t (.o d) = .none) {e k : Nat} {es : List (List TV)} {w' : World} {v : Value} {us : List Value} (hg : E.w.grownBy w' none)
    (hown : w'.ownsRow E.w.heap.size e k v es.length us) (hrel : ∀ E' : En, E'.w = w' → ExtA E E' → RowRel E' us k 0 es) :
    ∃ E' : En, E'.w = w' ∧ ExtA E E' ∧ InvE A (upd t (.o d) (.row e k es false)) a E' ∧ E'.val d = some (k, es.length, v) := by
  have hfree := h.h.item (.o d) (by simp)
  rw [hd] at hfree
  obtain ⟨hb0, hv0⟩ := hfree d rfl
  let E' : En := { E with w := w', val := fun i => if i = d then some (k, es.length, v) else E.val i }
  have hv' : E'.val d = some (k, es.length, v) := by simp [E']
  have hown' : E'.own (.o d) = v.ownBlock := by simp [En.own, E', hb0]
  have hold : ∀ b, b < E.w.heap.size → E'.w.heap[b]? = E.w.heap[b]? := fun b hb => hg.block b hb (by simp)
  have x : ExtA E E' := by
    refine ⟨fun _ _ h => h, fun b o hst => World.cell?_of_block (hold b (h.h.stsz b o hst)), fun _ _ _ h => h, fun _ _ h => h, fun _ _ h => h, fun i k' c u _ hu => ?_⟩
    by_cases e : i = d
    · subst e; rw [hv0] at hu; simp at hu
    · exact ⟨c, u, by simp [E', e, hu], Nat.le_refl _, fun _ => rfl⟩
  have hH : HInv E' (upd t (.o d) (.row e k es false)) := by
    refine h.h.change (by simp) x (fun b o h => .inl h) (fun q hq => rfl) (fun i hne => ?_) hg.size (fun q b hq hb => hold b (h.h.size q b hb)) (fun b hb => ?_) ⟨hb0, d, v, us, rfl, hv', ⟨hown.1, hown.2.imp (fun h => h) fun ⟨g, cap, cur, h1, _, h3⟩ => ⟨g, cap, cur, h1, Nat.zero_le _, h3⟩⟩, hrel E' rfl x⟩ (fun b o hs hb => ?_)
    · have hne' : i ≠ d := fun e => hne (by rw [e])
      simp [E', hne']
    · rw [hown'] at hb
      exact ⟨(hown.lt b hb).2, .inr (hown.lt b hb).1⟩
    · rw [hown'] at hb
      have := (hown.lt b hb).1
      have := h.h.stsz _ _ hs
      omega
  refine ⟨E', rfl, x, h.step hH x (h.fr.next hg.os hg.tape hg.output hg.size (fun b hb _ => hold b (Nat.lt_of_lt_of_le hb h.fr.size)) (fun _ => rfl) (fun i b hb => ?_) (fun _ _ h => h) (fun _ _ h => .inl h)) (fun k => upd_s (by simp) k), hv'⟩
  by_cases e : i = d
  · subst e
    rw [hown'] at hb
    exact .inr (hown.lt b hb).1
  · have : E'.own (.o i) = E.own (.o i) := En.own_eq rfl (fun j hj => by simp only [Pl.o.injEq] at hj; subst hj; simp [E', e])
    rw [this] at hb; exact .inl hb

/-- make([]T, n): a row of the activation's own -/
theorem eff_makeSlice {o : Oper} {t : S} {ty e : TypeId} {k b d : Nat} {n : Int} {z : Value} {lx cx : Operand} (ho : o.op = .makeSlice ty lx cx) (he : slE P ty = some e) (hk : szO P e = some k) (hb : byO P e = some b) (hz : zrO P e = some z)
    (hl : ev t lx = .d (.int .i64 n)) (hc : ev t cx = .d (.int .i64 n)) :
    EffOK P A o t ⟨t (.o d) = .none ∧ 0 ≤ n ∧ n ≤ 1000000 ∧ b * n ≤ 281474976710656 ∧ (zcells z).length = k ∧ 0 < k ∧ (zcells z).all (·.oneCell') = true, pl lx ++ (pl cx ++ [.o d]),
      [(.o d, .row e k (List.replicate n.toNat ((zcells z).map ofCell)) false)], .oref d n.toNat⟩ := fun ⟨hd, hn0, hn1, hnb, hzl, hk0, hz1⟩ t' hr a E hi => by
  have hd' : t' (.o d) = .none := (pl_right (pl_right hr) _ (by simp)).trans hd
  have hl' : ev t' lx = .d (.int .i64 n) := (ev_eq (pl_left hr)).trans hl
  have hc' : ev t' cx = .d (.int .i64 n) := (ev_eq (pl_left (pl_right hr))).trans hc
  have h1 := ev_rel hi lx
  rw [hl'] at h1
  simp only [RelV, Rep] at h1
  have h2 := ev_rel hi cx
  rw [hc'] at h2
  simp only [RelV, Rep] at h2
  rw [zcells_eq] at hzl hz1
  obtain ⟨m, hm⟩ : ∃ m : Nat, n = m := ⟨n.toNat, by omega⟩
  subst hm
  rw [Int.toNat_natCast]
  let ru : Array Value := (Array.range (m * k)).map fun i => z.cells[i % z.cells.size]!
  have hrs : ru.size = m * k := by simp [ru]
  have hln : (List.replicate m ((zcells z).map ofCell)).length = m := by simp
  have hzs : z.cells.size = k := by simpa using hzl
  obtain ⟨E', hw', x, hinv, hval⟩ := hi.newRowV hd' (es := List.replicate m ((zcells z).map ofCell)) (v := .slice (some ⟨E.w.heap.size, 0, none⟩) m m) (us := ru.toList) (e := e) (k := k) (w' := E.w.alloc (.cells ru e))
    (World.grownBy_alloc _ _ _)
    (by
      rw [hln]
      refine ⟨by simp [hrs], .inr ⟨E.w.heap.size, m, ru, rfl, Nat.le_refl _, heap_alloc_new E.w _, Nat.le_refl _, by simp only [maxLen]; omega, by rw [hrs], ?_⟩⟩
      rw [List.take_of_length_le (by simp [hrs])])
    (fun E' hw' x => by
      refine RowRel.of_get fun i el hel => ?_
      rw [List.getElem?_replicate] at hel
      split at hel
      · rename_i him
        simp only [Option.some.injEq] at hel
        subst hel
        refine ⟨by rw [List.length_map, zcells_eq]; exact hzl, CellsRel.of_get fun j tv hj => ?_⟩
        rw [zcells_eq, List.getElem?_map] at hj
        obtain ⟨u, hu, rfl⟩ := Option.map_eq_some_iff.1 hj
        have hjk : j < k := by have := (List.getElem?_eq_some_iff.1 hu).1; omega
        have hlt : i * k + j < m * k := by
          have : (i + 1) * k ≤ m * k := Nat.mul_le_mul_right k him
          rw [Nat.add_mul, Nat.one_mul] at this; omega
        have hmod : (i * k + j) % k = j := by rw [Nat.add_comm, Nat.add_mul_mod_self_right, Nat.mod_eq_of_lt hjk]
        have hu' : z.cells[j]? = some u := by simpa using hu
        refine ⟨u, ?_, List.all_eq_true.1 hz1 u (List.mem_of_getElem? hu), ofCell_rel E' u⟩
        simp [ru, hlt, hzs, hmod]
        simp [getElem!_def, hu']
      · simp at hel)
  refine ⟨_, .slice (some ⟨E.w.heap.size, 0, none⟩) m m, E', ?_, .inl rfl, hinv, ?_⟩
  · unfold slE at he
    split at he
    rotate_left
    · simp at he
    rename_i e' hu
    simp only [Option.some.injEq] at he; subst he
    unfold szO at hk; unfold zrO at hz; unfold byO at hb
    cases hinf : P.info? e' with
    | none => simp [hinf] at hk
    | some inf =>
    simp only [hinf, Option.map_some, Option.some.injEq, Option.bind_some] at hk hz hb
    have hw : IntKind.i64.wrap (m : Int) = m := by rw [IntKind.wrap_i64]; omega
    have hc1 : ¬ ((m : Int) < 0) := by omega
    have hc2 : ¬ (281474976710656 < (b : Int) * (m : Int)) := by omega
    by_cases hmk : m * k = 0
    · have hru : ru = #[] := Array.size_eq_zero_iff.1 (by rw [hrs, hmk])
      rw [hru] at hw'
      simp only [execOp, ho, h1, h2, Instr.makeSlice, Sem.run_bind, run_underlying hu, Result.andThen_ok, asInt, asIntOf, Sem.run_pure, typeInfo, sizeOf, run_program, hinf, hk, hb, hw, Int.reducePow, gt_iff_lt, hc1, hc2, Int.lt_irrefl, decide_false, Bool.or_self, Bool.false_eq_true, if_false, run_askRoom, Int.toNat_natCast, hmk, if_true, newRow, run_newObj]
      rw [hw']
      exact congrArg (fun r => Result.ok _ (E.w.alloc (.cells r e'))) (by simp)
    · simp only [execOp, ho, h1, h2, Instr.makeSlice, Sem.run_bind, run_underlying hu, Result.andThen_ok, asInt, asIntOf, Sem.run_pure, typeInfo, sizeOf, run_program, hinf, hk, hb, hw, Int.reducePow, gt_iff_lt, hc1, hc2, Int.lt_irrefl, decide_false, Bool.or_self, Bool.false_eq_true, if_false, run_askRoom, Int.toNat_natCast, hmk, zeroValue, hz, newRow, run_newObj]
      rw [hw']
      rfl
  · simp only [RelV]
    rw [hln] at hval
    exact ⟨rfl, k, m, _, hval, Nat.le_refl _, fun _ => rfl⟩
end
end Go.Tr
