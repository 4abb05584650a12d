/-
  Laws of the layer between the model and plain data (states, operations, calls, loops); none has a condition beyond those that stand in its own statement.
-/
import Derived.Test.YtkhneohilohhiaaT6
set_option linter.unusedSimpArgs false
namespace Go.Tr
open Go

section
variable {P : Program} {A : Actv}

/-- A row changes (its value, its cells; perhaps its block). -/
theorem InvE.rowStep {t : S} {a : Act} {E : En} (hi : InvE A t a E) {id k : Nat} {e : TypeId} {es es' : List (List TV)} {sh sh' : Bool} (ht : t (.o id) = .row e k es sh)
    {v v' : Value} {us' : List Value} {w' : World} (hval : E.val id = some (k, es.length, v)) (hg : E.w.grownBy w' v.ownBlock) (hown : w'.ownsRow 0 e k v' es'.length us')
    (hle : es.length ≤ es'.length) (heq : es.length = es'.length → v' = v) (hob : v'.ownBlock = v.ownBlock ∨ v'.ownBlock = some E.w.heap.size)
    (hst : ∀ b o, E.St b o → w'.cell? ⟨b, o, none⟩ = E.w.cell? ⟨b, o, none⟩) (hsh : sh = true → sh' = true)
    (hrel : ∀ E' : En, E'.w = w' → ExtA E E' → RowRel E' us' k 0 es') :
    ∃ E' : En, E'.w = w' ∧ ExtA E E' ∧ InvE A (upd t (.o id) (.row e k es' sh')) a E' ∧ E'.val id = some (k, es'.length, v') := by
  have hit := hi.h.item (.o id) (by simp)
  rw [ht] at hit
  obtain ⟨hb0, _⟩ := hit
  have hownp : E.own (.o id) = v.ownBlock := by simp [En.own, hb0, hval]
  let E' : En := { E with w := w', val := fun i => if i = id then some (k, es'.length, v') else E.val i }
  have hv' : E'.val id = some (k, es'.length, v') := by simp [E']
  have hownp' : E'.own (.o id) = v'.ownBlock := by simp [En.own, E', hb0]
  have x : ExtA E E' := by
    refine ⟨fun _ _ h => h, hst, fun _ _ _ h => h, fun _ _ h => h, fun _ _ h => h, fun i k' c u _ hu => ?_⟩
    by_cases e : i = id
    · subst e
      rw [hval] at hu
      simp only [Option.some.injEq, Prod.mk.injEq] at hu
      obtain ⟨rfl, rfl, rfl⟩ := hu
      exact ⟨_, _, hv', hle, heq⟩
    · exact ⟨c, u, by simp [E', e, hu], Nat.le_refl _, fun _ => rfl⟩
  have hothb : ∀ q b, q ≠ .o id → E.own q = some b → w'.heap[b]? = E.w.heap[b]? := fun q b hq hb => by
    refine hg.block b (hi.h.size q b hb) (fun e => hq (hi.h.inj _ _ b hb ?_))
    rw [hownp, ← e]
  have hH : HInv E' (upd t (.o id) (.row e k es' sh')) := by
    refine hi.h.change (by simp) x (fun b o h => .inl h) (fun q hq => rfl) (fun i hne => ?_) hg.size hothb (fun b hb => ?_) ⟨hb0, id, v', us', rfl, hv', hown, hrel E' rfl x⟩ (fun b o hs hb => ?_)
    · have hne' : i ≠ id := fun e => hne (by rw [e])
      simp [E', hne']
    · rw [hownp'] at hb
      rw [hownp]
      exact ⟨(hown.lt b hb).2, hob.elim (fun e => .inl (e ▸ hb)) (fun e => .inr (by rw [e] at hb; simp at hb; omega))⟩
    · rw [hownp'] at hb
      rcases hob with e' | e'
      · obtain ⟨e2, k2, es2, h1, h2⟩ := hi.h.sep b o hs (.o id) (by rw [hownp, ← e', hb])
        rw [ht] at h1
        simp only [It.row.injEq] at h1
        obtain ⟨rfl, rfl, rfl, hs1⟩ := h1
        exact ⟨e, k, es', by rw [hsh hs1], Nat.lt_of_lt_of_le h2 (Nat.mul_le_mul_right _ hle)⟩
      · rw [e'] at hb; simp at hb
        have := hi.h.stsz _ _ hs
        omega
  refine ⟨E', rfl, x, hi.step hH x (hi.fr.next hg.os hg.tape hg.output hg.size (fun b h1 h2 => hg.block b (Nat.lt_of_lt_of_le h1 hi.fr.size) (fun e => ?_)) (fun _ => rfl) (fun i b hb => ?_) (fun _ _ h => h) (fun _ _ h => .inl h)) (fun k => upd_s (by simp) k), hv'⟩
  · have := hi.fr.new id b (by rw [hownp, ← e]); omega
  · by_cases e : i = id
    · subst e
      rw [hownp'] at hb
      rw [hownp]
      exact hob.elim (fun e => .inl (e ▸ hb)) (fun e => .inr (by rw [e] at hb; simp at hb; omega))
    · have : E'.own (.o i) = E.own (.o i) := En.own_eq rfl (fun j hj => by simp only [Pl.o.injEq] at hj; subst hj; simp [E', e])
      rw [this] at hb; exact .inl hb

theorem listSet_get {α : Type} {l : List α} {i : Nat} (h : i < l.length) (v : α) (j : Nat) : (l.set i v)[j]? = if j = i then some v else l[j]? := by
  rw [List.getElem?_set]
  by_cases e : i = j
  · subst e; simp [h]
  · simp [e, show ¬ j = i from fun h => e h.symm]

theorem eff_store_row {o : Oper} {t : S} {ty : TypeId} {x y : Operand} {id n i q k : Nat} {e : TypeId} {es : List (List TV)} {vs : List TV} (ho : o.op = .store ty x y) (hx : ev t x = .eptr id n i q) (ht : t (.o id) = .row e k es false)
    (hv : (ev t y).cells = vs) (hz : szO P ty = some vs.length) :
    EffOK P A o t ⟨n = es.length ∧ i < es.length ∧ q + vs.length ≤ (es.getD i []).length ∧ ∀ c ∈ vs, c.one = true, pl x ++ (pl y ++ [.o id]), [(.o id, .row e k (es.set i (setAt (es.getD i []) q vs)) false)], .junk⟩ := fun ⟨hn, hil, hl, h1⟩ t' hr a E hi => by
  have hx' := ev_rel hi x
  rw [ev_eq (pl_left hr), hx] at hx'
  have hy' := ev_rel hi y
  rw [ev_eq (pl_left (pl_right hr))] at hy'
  have ht' : t' (.o id) = .row e k es false := (pl_right (pl_right hr) _ (by simp)).trans ht
  subst hn
  obtain ⟨hs, hc⟩ := cells_rel hy' (by rw [hv]; exact h1)
  rw [hv] at hs hc
  obtain ⟨g, cap, us, hval, hu, hown, hrow⟩ := eptr_cur hi ht' hx'
  have hone : ∀ u ∈ (a.eval y).cells.toList, u.oneCell' = true := fun u hu => by
    obtain ⟨i, hi', rfl⟩ := List.getElem_of_mem hu
    have hlt : i < vs.length := by rw [← hs]; simpa using hi'
    obtain ⟨u', h2, h3, _⟩ := hc.get (i := i) (t := vs[i]) (by simp [hlt])
    simp only [Nat.zero_add, List.getElem?_eq_getElem hi', Option.some.injEq] at h2
    subst h2; exact h3
  have hgel : es[i]? = some (es.getD i []) := by simp [List.getD, hil]
  obtain ⟨hlen, hcell⟩ := hrow.get hgel
  simp only [Nat.zero_add] at hcell
  rcases hown.2 with ⟨h4, _⟩ | ⟨g', cap', cur, h4, hg0, hgg, hnc, hcm, hcs, htake⟩
  · simp at h4
  simp only [Value.slice.injEq, Option.some.injEq, Addr.mk.injEq, true_and, and_true] at h4
  obtain ⟨rfl, rfl⟩ := h4
  have hmul : i * k + k ≤ es.length * k := by
    have : (i + 1) * k ≤ es.length * k := Nat.mul_le_mul_right k hil
    rwa [Nat.add_mul, Nat.one_mul] at this
  have hmul2 : es.length * k ≤ cap * k := Nat.mul_le_mul_right k hnc
  let arr : Array Value := (cur.toList.take (i * k + q) ++ (a.eval y).cells.toList ++ cur.toList.drop (i * k + q + (a.eval y).cells.size)).toArray
  have hrun := run_store_row (P := P) hgg (q := i * k + q) (v := a.eval y) hz hs (by omega) hone
  have harr : arr.size = cur.size := by simp [arr]; omega
  have hget := get_put (cur := cur.toList) (vs := (a.eval y).cells.toList) (q := i * k + q) (by simp; omega)
  simp only [Array.length_toList, hs] at hget
  let us' := arr.toList.take (es.length * k)
  have hus' : ∀ j, j < es.length * k → us'[j]? = if j < i * k + q then us[j]? else if j < i * k + q + vs.length then (a.eval y).cells.toList[j - (i * k + q)]? else us[j]? := fun j hj => by
    have h6 : us[j]? = cur.toList[j]? := by rw [← htake, List.getElem?_take, if_pos hj]
    simp only [us', arr, List.toList_toArray, List.getElem?_take, if_pos hj, hs, hget, h6]
  have hgrown : E.w.grownBy (E.w.setRow g arr) (Value.ownBlock (.slice (some ⟨g, 0, none⟩) es.length cap)) :=
    ⟨rfl, rfl, rfl, by simp [World.setRow], fun b _ hne => setRow_other E.w g b _ (fun e => hne (by simp [Value.ownBlock, e]))⟩
  have hes : (es.set i (setAt (es.getD i []) q vs)).length = es.length := by simp
  have hblkown : E.own (.o id) = some g := by
    have hit := hi.h.item (.o id) (by simp)
    rw [ht'] at hit
    simp [En.own, hit.1, hval, Value.ownBlock]
  obtain ⟨E', hw', x, hinv, hval'⟩ := hi.rowStep ht' (v' := .slice (some ⟨g, 0, none⟩) es.length cap) (us' := us') (es' := es.set i (setAt (es.getD i []) q vs)) (sh' := false) hval hgrown
    (by
      rw [hes]
      refine ⟨by simp [us', harr]; omega, .inr ⟨g, cap, arr, rfl, hg0, setRow_heap_self hgg arr, hnc, hcm, by rw [harr, hcs], rfl⟩⟩)
    (by rw [hes]; exact Nat.le_refl _) (fun _ => rfl) (.inl rfl)
    (fun b o' hst => by
      by_cases e : b = g
      · subst e
        obtain ⟨e', k', es', h2, _⟩ := hi.h.sep _ _ hst _ hblkown
        rw [ht'] at h2; simp at h2
      · exact World.cell?_of_block (setRow_other E.w g b _ e))
    (fun h => h)
    (fun E' hw' x => RowRel.of_get fun i' el hel => by
      rw [listSet_get hil] at hel
      have hlt : i' < es.length := by
        by_cases e : i' = i
        · omega
        · rw [if_neg e] at hel; exact (List.getElem?_eq_some_iff.1 hel).1
      have hm' : i' * k + k ≤ es.length * k := by
        have : (i' + 1) * k ≤ es.length * k := Nat.mul_le_mul_right k hlt
        rwa [Nat.add_mul, Nat.one_mul] at this
      by_cases e : i' = i
      · subst e
        rw [if_pos rfl] at hel
        simp only [Option.some.injEq] at hel
        subst hel
        refine ⟨by rw [setAt_length hl, hlen], CellsRel.of_get fun j tv hj => ?_⟩
        rw [setAt_get hl] at hj
        have hjk : j < k := by
          by_cases h2 : j < q
          · omega
          · rw [if_neg h2] at hj
            by_cases h3 : j < q + vs.length
            · omega
            · rw [if_neg h3] at hj; have := (List.getElem?_eq_some_iff.1 hj).1; omega
        rw [Nat.zero_add, hus' _ (by omega)]
        by_cases h2 : j < q
        · rw [if_pos h2] at hj
          rw [if_pos (by omega)]
          obtain ⟨u, h5, h6, h7⟩ := hcell.get hj
          exact ⟨u, h5, h6, h7.up x⟩
        · rw [if_neg h2] at hj
          rw [if_neg (by omega)]
          by_cases h3 : j < q + vs.length
          · rw [if_pos h3] at hj
            rw [if_pos (by omega)]
            obtain ⟨u, h5, h6, h7⟩ := hc.get hj
            refine ⟨u, ?_, h6, h7.up x⟩
            rw [show i' * k + j - (i' * k + q) = j - q by omega]
            simpa using h5
          · rw [if_neg h3] at hj
            rw [if_neg (by omega)]
            obtain ⟨u, h5, h6, h7⟩ := hcell.get hj
            exact ⟨u, h5, h6, h7.up x⟩
      · rw [if_neg e] at hel
        obtain ⟨h8, h9⟩ := hrow.get hel
        refine ⟨h8, CellsRel.of_get fun j tv hj => ?_⟩
        have hjk : j < k := by have := (List.getElem?_eq_some_iff.1 hj).1; omega
        rw [Nat.zero_add, hus' _ (by omega)]
        obtain ⟨u, h5, h6, h7⟩ := h9.get hj
        simp only [Nat.zero_add] at h5
        refine ⟨u, ?_, h6, h7.up x⟩
        by_cases h2 : i' * k + j < i * k + q
        · rw [if_pos h2]; exact h5
        · rw [if_neg h2, if_neg ?_]
          · exact h5
          · intro h3
            rcases Nat.lt_or_gt_of_ne e with h4 | h4
            · have : (i' + 1) * k ≤ i * k := Nat.mul_le_mul_right k h4
              rw [Nat.add_mul, Nat.one_mul] at this; omega
            · have : (i + 1) * k ≤ i' * k := Nat.mul_le_mul_right k h4
              rw [Nat.add_mul, Nat.one_mul] at this; omega)
  refine ⟨.skip, undef, E', ?_, .inr ⟨rfl, rfl⟩, hinv, by simp only [RelV]⟩
  simp only [execOp, ho, hu, Instr.storeAt, Instr.sureAddr, Sem.run_bind, Sem.run_pure, Result.andThen_ok, hrun, hw', arr]

end
end Go.Tr
